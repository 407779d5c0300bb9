/-
  blockfs: lists of puts that came in.
  blockfs: puts.
  blockfs: a commit of a list of one's own.
  blockfs: lists of lists of puts that came in.
  blockfs: a device with a volume and commits on it.
-/
import Derived.Test.YtomngfihaohgdaaDoorFsE
import Derived.Test.YtomngfihaohgdaaDoorOpenR
namespace Go.Proofs.YtomngfihaohgdaaDoor
set_option maxRecDepth 100000
open Go.RowKit Go.ChangeShapes Go.WideShapes Go.ChangeAt

/-- A put as the law has it. -/
structure InP where
  blk : Int
  A : Option Addr
  n : Nat
  c : Nat
  l : List UInt8
  sh : Bool
def Tryd.eJ : ETy InP where
  t := 74
  ts := 50
  sz := 3
  bytes := 40
  z := .agg #[.int .i64 0, .slice none 0 0, .bool false]
  cells := fun p => [.int .i64 p.blk, .slice p.A p.n p.c, .bool p.sh]
  len := fun _ => rfl
  one := fun x u hu => by simp at hu; rcases hu with rfl | rfl | rfl <;> rfl
  pos := by decide
  zsz := rfl
  small := by decide
  und := Tryd.underlying50
  info := by kernel_rfl
theorem full_e (A : Option Addr) (m c : Nat) (n : Nat) (l : List UInt8) (w : World) (h : RdE w A m c l) (hn : n ≤ 20000) :
    Calls Tryd.prog 22 #[.slice A m c, .int .i64 (n : Int)] w fun e w' =>
      ∃ g, e = .returned (.slice (some ⟨g, 0, none⟩) n n) ∧ Own w' w.heap.size (.slice (some ⟨g, 0, none⟩) n n) (full l n) ∧ Below w.heap.size w w' := by
  rcases h with h | ⟨rfl, rfl, rfl⟩
  · have hl : (full l (n : Int)).length = n := by
      unfold full
      rw [if_neg (by omega)]
      split
      · simp [zs_len]
      · simp [fullTo_len]
    have := full_any A m c (n : Int) l w h
    rw [hl] at this
    exact this
  · have hf : full [] (n : Int) = zs n := by unfold full; rw [if_neg (by omega), if_pos rfl]; simp
    have hM := Tryd.prog_make n (by omega) w
    have hni : ¬ (n : Int) < 0 := by omega
    have hn2 : ¬ 20000 < (n : Int) := by omega
    have hnb : (n : Int) ≤ 20000 := by omega
    rw [hf]
    clear hf
    go_enter Tryd.func22, Tryd.ntmps22
    go_wp2
    refine wp_loop_rounds 1 ?_
    rw [rounds_succ]
    go_wp2
    all_goals
      go_ret
      exact ⟨_, rfl, Own.made w n (by unfold maxLen; omega), (Below.refl _ _).alloc (Nat.le_refl _) _⟩
section
variable {H : Type} {enc : TypeId × Value → H}
def InP.ok (W : World) (x : InP) : Prop := RdE W x.A x.n x.c x.l
theorem put_trod {W : World} {n : Nat} {cs : List Value} {y : DataW H × List MemPlace} (h : DataW.trod enc Tryd.prog W 0 (fun _ => true) true n 74 cs = some y) : ∃ x : InP, cs = Tryd.eJ.cells x ∧ x.ok W := by
  obtain ⟨xs, n', _, hx', hlen, hxl, hfl⟩ := DataW.trod_struct Tryd.underlying74 h
  have hC : Tryd.prog.cellsOf 74 = 3 := by kernel_rfl
  have c1 : Tryd.prog.cellsOf 3 = 1 := by kernel_rfl
  have c2 : Tryd.prog.cellsOf 40 = 1 := by kernel_rfl
  have c3 : Tryd.prog.cellsOf 4 = 1 := by kernel_rfl
  match cs, hlen.trans hC with
  | [v0, v1, v2], _ =>
    have hz : ∀ j, j < 3 → ∃ y, xs[j]? = some y := fun j hj => ⟨_, List.getElem?_eq_getElem (by rw [hxl]; exact hj)⟩
    obtain ⟨y0, hy0⟩ := hz 0 (by omega)
    have f0 : DataW.trod enc Tryd.prog W 0 (fun _ => true) true n' 3 (([v0, v1, v2].drop 0).take (Tryd.prog.cellsOf 3)) = some y0 := (hfl 0 _ rfl).trans hy0
    rw [c1] at f0
    obtain ⟨a0, e0, _, w0⟩ := DataW.trod_int Tryd.underlying3 f0
    obtain ⟨y1, hy1⟩ := hz 1 (by omega)
    have f1 : DataW.trod enc Tryd.prog W 0 (fun _ => true) true n' 40 (([v0, v1, v2].drop 1).take (Tryd.prog.cellsOf 40)) = some y1 := (hfl 1 _ rfl).trans hy1
    rw [c2] at f1
    obtain ⟨A, m, c, l, e1, hr⟩ := rdE_trodN (v := v1) f1
    obtain ⟨y2, hy2⟩ := hz 2 (by omega)
    have f2 : DataW.trod enc Tryd.prog W 0 (fun _ => true) true n' 4 (([v0, v1, v2].drop 2).take (Tryd.prog.cellsOf 4)) = some y2 := (hfl 2 _ rfl).trans hy2
    rw [c3] at f2
    obtain ⟨b, e2, _⟩ := DataW.trod_bool Tryd.underlying4 f2
    simp at e0 e2
    subst e0 e1 e2
    exact ⟨⟨a0, A, m, c, l, b⟩, rfl, hr⟩
theorem open_puts {W : World} {base : Nat} {v : Value} {d : DataW H} {p : List MemPlace} (hval : Value.okWide Tryd.prog W .any base 50 v) (h : DataW.Trod enc Tryd.prog W 0 (fun _ => true) true 50 v d p) :
    ∃ A m c l, v = .slice A m c ∧ m ≤ maxLen ∧ RdC Tryd.eJ W A m l ∧ ∀ x ∈ l, x.ok W := by
  obtain ⟨A, m, c, l, h1, h2, _, h3⟩ := open_sliceE Tryd.eJ (InP.ok W) (by kernel_rfl) (fun n cs y h => put_trod h) (fun x => ⟨_, rfl, .i64, x.blk, .inl rfl⟩) hval h
  exact ⟨A, m, c, l, h1, h2, h3⟩
end
end Go.Proofs.YtomngfihaohgdaaDoor
namespace Go.Proofs.YtomngfihaohgdaaDoor
set_option maxRecDepth 100000
open Go.RowKit

section
variable {α : Type} (E : ETy α) {ops : Array Oper} {o : Oper} {a : Act} {w : World} {K : Act → World → Prop} {Q : Exit → Act → World → Prop}
theorem step_appG {F : Prop} (s x : Operand) (base : Nat) (v : Value) (l : List α) (hown : OwnE E w base v l) (hbase : base ≤ w.heap.size)
    (A : Option Addr) (m c : Nat) (l2 : List α) (hrd : RdC E w A m l2) (hnil : A = none → c = 0) (hbp : 0 < E.bytes) (hlen : (l.length + l2.length) * E.bytes ≤ 140737488355328) (hgd : o.guard = none)
    (ho : o.op = .call { callee := .builtin .append, args := #[s, x], argTypes := #[E.ts, E.ts] }) (hs : a.eval s = v) (hx : a.eval x = .slice A m c)
    (h : ∀ (A' : Option Addr) (n' c' : Nat) (w' : World), GrewE E base w w' v A' n' c' (l ++ l2) → K (a.put o.dst (.slice A' n' c')) w') : if Region.wanted o (yielded ops a.tmps) = true then Oper.wp Tryd.prog o a w K Q else F := by
  rw [if_pos (by simp [Region.wanted, hgd])]
  exact op_appG E s x base v l hown hbase A m c l2 hrd hnil hbp hlen ho hs hx h
end
def InsAt (w : World) (A : Option Addr) (m : Nat) (ins : List InP) : Prop := RdC Tryd.eJ w A m ins ∧ ∀ x ∈ ins, RdE w x.A x.n x.c x.l
theorem InsAt.below {w w' : World} {A : Option Addr} {m : Nat} {ins : List InP} (h : InsAt w A m ins) (hb : Below w.heap.size w w') : InsAt w' A m ins := ⟨h.1.below hb, fun x hx => (h.2 x hx).below hb⟩
/-- What is put, plainly. -/
def InP.bytes (x : InP) : List UInt8 := full x.l (if x.sh then 100 else 256)
def plainP (ins : List InP) : List (Int × List UInt8) := ins.map fun x => (x.blk, x.bytes)
theorem InP.okP (B : Nat) (x : InP) (A : Option Addr) (n c : Nat) : okP B ⟨x.blk, A, n, c, x.bytes⟩ = (decide (0 ≤ x.blk) && decide (x.blk < B) && !x.sh) := by
  unfold Go.Proofs.YtomngfihaohgdaaDoor.okP InP.bytes
  simp only
  congr 1
  cases x.sh with
  | true =>
    have : (full x.l 100).length = 100 := by
      unfold full
      rw [if_neg (by omega)]
      split
      · exact zs_len 100
      · exact fullTo_len _ _ _
    simp [this]
  | false => simp [full256_len]
set_option maxHeartbeats 2000000 in
theorem puts_any (A : Option Addr) (m c Bk : Nat) (ins : List InP) (w : World) (h : InsAt w A m ins) (hB : Bk ≤ 1000) (hl : m ≤ 3518437208780) :
    Calls Tryd.prog 24 #[.slice A m c, .int .i64 (Bk : Int)] w fun e w' => ∃ A' c' ps, e = .returned (.tuple #[.slice A' m c', .bool (mayP Bk ps)]) ∧ PutsOwn w' w.heap.size (.slice A' m c') ps ∧ ps.map (fun p => (p.blk, p.l)) = plainP ins ∧ Old w w' := by
  obtain ⟨X, hX⟩ : ∃ X, w.heap.size = X := ⟨_, rfl⟩
  rw [hX]
  have hm : ins.length = m := h.1.1
  obtain ⟨ok0, hok0⟩ : ∃ ok0, decide (m ≤ Bk) = ok0 := ⟨_, rfl⟩
  have H := Lib.hid (And.intro h (And.intro hm (And.intro hX hok0)))
  clear h hm
  go_enter Tryd.func24, Tryd.ntmps24
  go_wp2_with fail
  try rw [hok0]
  go_loopw [6, 7, 8] (fun lv okv iv wr => ∃ (k : Nat) (A5 : Option Addr) (n5 c5 : Nat) (ps : List PutV), k ≤ m ∧ lv = .slice A5 n5 c5 ∧ okv = .bool (ok0 && ps.all (okP Bk)) ∧ iv = .int .i64 (k : Int) ∧ PutsOwn wr X (.slice A5 n5 c5) ps ∧ ps.map (fun p => (p.blk, p.l)) = plainP (ins.take k) ∧ Old w wr) (fun _ _ iv _ => m - (intOf iv).toNat)
  case atStart => exact ⟨0, none, 0, 0, [], by omega, rfl, by simp [], rfl, ⟨OwnE.nil _ _, by simp⟩, rfl, Old.refl _⟩
  case round =>
    obtain ⟨k, A5, n5, c5, ps, hk, rfl, rfl, rfl, hP, hps, hO⟩ := hrel
    by_cases hlt : k < m
    · have hlti : (k : Int) < m := by omega
      have hltd : decide ((k : Int) < (m : Int)) = true := decide_eq_true hlti
      obtain ⟨x, hx⟩ : ∃ x, ins[k]? = some x := ⟨_, List.getElem?_eq_getElem (by rw [H.out.2.1]; exact hlt)⟩
      obtain ⟨g0, off, hA, hg0, hc⟩ := H.out.1.1.at_ hx
      subst hA
      have c0 := hc 0 (by decide)
      have c1 := hc 1 (by decide)
      have c2 := hc 2 (by decide)
      have hE := H.out.1.2 x (List.mem_of_getElem? hx)
      obtain ⟨xb, xA, xn, xc, xl, xs⟩ := x
      have c0' : w.cell? ⟨g0, off + k * 3, none⟩ = some (.int .i64 xb) := c0
      have c1' : w.cell? ⟨g0, off + k * 3 + 1, none⟩ = some (.slice xA xn xc) := c1
      have c2' : w.cell? ⟨g0, off + k * 3 + 2, none⟩ = some (.bool xs) := c2
      have z2 := cell_old hO c2'
      obtain ⟨qv, hqv⟩ : ∃ qv, (ok0 && ps.all (okP Bk)) = qv := ⟨_, rfl⟩
      rw [hqv]
      obtain ⟨T, hT⟩ : ∃ T, (Value.slice A5 n5 c5).ownBlock.toList = T := ⟨_, rfl⟩
      have hTX : ∀ b ∈ T, X ≤ b := fun b hb => by
        rw [← hT, Option.mem_toList] at hb
        exact (hP.1.lt hb).1
      have hg0T : g0 ∉ T := fun hm => by have := hTX _ hm; omega
      have hpl : ps.length = k := by
        have h2 := congrArg List.length hps
        rw [List.length_map] at h2
        unfold plainP at h2
        rw [List.length_map, List.length_take, H.out.2.1] at h2
        omega
      have hXr : X ≤ wr.heap.size := by rw [← hX]; exact hO.size
      have hC0 := cell_old hO c0'
      have hC1 := cell_old hO c1'
      have HX := Lib.hid (And.intro hP (And.intro hps (And.intro hO (And.intro hE (And.intro hC0 (And.intro hC1 (And.intro hx (And.intro hqv (And.intro hT (And.intro hTX (And.intro hg0T (And.intro hpl (And.intro hXr c0')))))))))))))
      clear hP hps hO hE hC0 hC1 hx hqv hT hTX hg0T hpl hXr c0 c1 c2 c0' c1' c2' hc hok0
      cases xs with
      | true =>
        go_wp2_with fail
        refine region_turn T (by kernel_rfl) (fun wd hOd hHeld hSz => ?_)
        have HSz := Lib.hid hSz
        clear hSz
        refine takeL (i := 0) (v := ?_) rfl (by kernel_rfl) (by kernel_rfl) (by kernel_rfl) (fun _ _ _ h => h) (Or.inl ⟨by rfl, ?_⟩) hHeld ?_
        rotate_left
        focus (intro wq hSw; clear hSw; go_simp; try with_reducible rfl)
        try simp only [Act.put, List.setIfInBounds_toArray, List.set_cons_zero, List.set_cons_succ]
        refine takeL (i := 1) (v := ?_) rfl (by kernel_rfl) (by kernel_rfl) (by kernel_rfl) (fun _ _ _ h => h) (Or.inl ⟨by rfl, ?_⟩) hHeld ?_
        rotate_left
        focus (intro wq hSw; clear hSw; go_simp; try with_reducible rfl)
        try simp only [Act.put, List.setIfInBounds_toArray, List.set_cons_zero, List.set_cons_succ]
        refine takeL (i := 2) (v := ?_) rfl (by kernel_rfl) (by kernel_rfl) (by kernel_rfl) (fun _ _ _ h => h) (Or.inl ⟨by rfl, ?_⟩) hHeld ?_
        rotate_left
        focus (intro wq hSw; clear hSw; go_simp; try with_reducible rfl)
        try simp only [Act.put, List.setIfInBounds_toArray, List.set_cons_zero, List.set_cons_succ]
        refine takeL (i := 3) (v := ?_) rfl (by kernel_rfl) (by kernel_rfl) (by kernel_rfl) (fun _ _ _ h => h) (Or.inl ⟨by rfl, ?_⟩) hHeld ?_
        rotate_left
        focus (intro wq hSw; clear hSw; go_simp; try with_reducible rfl)
        try simp only [Act.put, List.setIfInBounds_toArray, List.set_cons_zero, List.set_cons_succ]
        refine takeL (i := 4) (v := ?_) rfl (by kernel_rfl) (by kernel_rfl) (by kernel_rfl) (fun _ _ _ h => h) (Or.inl ⟨by rfl, ?_⟩) hHeld ?_
        rotate_left
        focus (intro wq hSw; clear hSw; go_simp; try with_reducible rfl)
        try simp only [Act.put, List.setIfInBounds_toArray, List.set_cons_zero, List.set_cons_succ]
        refine takeL (i := 5) (v := ?_) rfl (by kernel_rfl) (by kernel_rfl) (by kernel_rfl) (fun _ _ _ h => h) (Or.inl ⟨by rfl, ?_⟩) hHeld ?_
        rotate_left
        focus (intro wq hSw; have z0 := cell_turn HX.out.2.2.2.2.1 hSw HX.out.2.2.2.2.2.2.2.2.2.2.1; clear hSw; go_simp; try with_reducible rfl)
        try simp only [Act.put, List.setIfInBounds_toArray, List.set_cons_zero, List.set_cons_succ]
        refine takeL (i := 6) (v := ?_) rfl (by kernel_rfl) (by kernel_rfl) (by kernel_rfl) (fun _ _ _ h => h) (Or.inl ⟨by rfl, ?_⟩) hHeld ?_
        rotate_left
        focus (intro wq hSw; clear hSw; go_simp; try with_reducible rfl)
        try simp only [Act.put, List.setIfInBounds_toArray, List.set_cons_zero, List.set_cons_succ]
        refine takeL (i := 7) (v := ?_) rfl (by kernel_rfl) (by kernel_rfl) (by kernel_rfl) (fun _ _ _ h => h) (Or.inl ⟨by rfl, ?_⟩) hHeld ?_
        rotate_left
        focus (intro wq hSw; clear hSw; go_simp; try with_reducible rfl)
        try simp only [Act.put, List.setIfInBounds_toArray, List.set_cons_zero, List.set_cons_succ]
        refine takeL (i := 8) (v := ?_) rfl (by kernel_rfl) (by kernel_rfl) (by kernel_rfl) (fun _ _ _ h => h) (Or.inl ⟨by rfl, ?_⟩) hHeld ?_
        rotate_left
        focus (intro wq hSw; clear hSw; go_simp; try with_reducible rfl)
        try simp only [Act.put, List.setIfInBounds_toArray, List.set_cons_zero, List.set_cons_succ]
        refine takeL (i := 9) (v := ?_) rfl (by kernel_rfl) (by kernel_rfl) (by kernel_rfl) (fun _ _ _ h => h) (Or.inl ⟨by rfl, ?_⟩) hHeld ?_
        rotate_left
        focus (intro wq hSw; clear hSw; go_simp; try with_reducible rfl)
        try simp only [Act.put, List.setIfInBounds_toArray, List.set_cons_zero, List.set_cons_succ]
        refine takeL (i := 10) (v := ?_) rfl (by kernel_rfl) (by kernel_rfl) (by kernel_rfl) (fun _ _ _ h => h) (Or.inl ⟨by rfl, ?_⟩) hHeld ?_
        rotate_left
        focus (intro wq hSw; have z1 := cell_turn HX.out.2.2.2.2.2.1 hSw HX.out.2.2.2.2.2.2.2.2.2.2.1; clear hSw; go_simp; try with_reducible rfl)
        try simp only [Act.put, List.setIfInBounds_toArray, List.set_cons_zero, List.set_cons_succ]
        refine takeL (i := 11) (v := ?_) rfl (by kernel_rfl) (by kernel_rfl) (by kernel_rfl) (fun _ _ _ h => h) (Or.inl ⟨by rfl, ?_⟩) hHeld ?_
        rotate_left
        focus (intro wq hSw; clear hSw; go_simp; try with_reducible rfl)
        try simp only [Act.put, List.setIfInBounds_toArray, List.set_cons_zero, List.set_cons_succ]
        refine wpAnyH_ready (rs := [12]) (by kernel_rfl) (by simp) ?_
        refine consL rfl (fun K hK => ?_) AllReadyH.nil
        go_simp
        refine (full_e xA xn xc 100 xl wd (HX.out.2.2.2.1.below (Old.trans HX.out.2.2.1 hOd)) (by omega)).mono ?_
        rintro e w2 ⟨g2, rfl, hO2, hb2⟩
        have hT2 := hHeld.trans (Turn.of_below T hb2) (fun x hx => .inl hx)
        have hP2 : PutsOwn w2 X (.slice A5 n5 c5) ps := (HX.out.1.below hOd).below hb2
        have hs2 : X ≤ w2.heap.size := Nat.le_trans HX.out.2.2.2.2.2.2.2.2.2.2.2.2.1 hT2.size
        have hO2' := hO2.mono (show X ≤ wd.heap.size from Nat.le_trans HX.out.2.2.2.2.2.2.2.2.2.2.2.2.1 hOd.size)
        clear hO2 hb2
        refine hK.out _ _ hT2 (fun hHeld => ?_)
        clear hK K
        try simp only [Act.put, List.setIfInBounds_toArray, List.set_cons_zero, List.set_cons_succ]
        refine takeL (i := 13) (v := ?_) rfl (by kernel_rfl) (by kernel_rfl) (by kernel_rfl) (fun _ _ _ h => h) (Or.inl ⟨by rfl, ?_⟩) hHeld ?_
        rotate_left
        focus (intro wq hSw; clear hSw; go_simp; try with_reducible rfl)
        try simp only [Act.put, List.setIfInBounds_toArray, List.set_cons_zero, List.set_cons_succ]
        refine wpAnyH_ready (rs := [14]) (by kernel_rfl) (by simp) ?_
        refine consL rfl (fun K hK => ?_) AllReadyH.nil
        go_simp
        refine hK.out _ _ (hHeld.alloc _) (fun hHeld => ?_)
        clear hK K
        try simp only [Act.put, List.setIfInBounds_toArray, List.set_cons_zero, List.set_cons_succ]
        refine wpAnyH_ready (rs := [15]) (by kernel_rfl) (by simp) ?_
        refine consL rfl (fun K hK => ?_) AllReadyH.nil
        refine step_appG Tryd.eP (.tmp 25) (.tmp 39) X (.slice A5 n5 c5) ps (hP2.1.below ((Old.refl w2).alloc _)) (by simp; omega) (some ⟨w2.heap.size, 0, none⟩) 1 1 [⟨xb, some ⟨g2, 0, none⟩, 100, 100, full xl 100⟩] (Blk.rdC Tryd.eP (Blk.new _ _ _) rfl) (fun h => by cases h) (by decide) (by have := HX.out.2.2.2.2.2.2.2.2.2.2.2.1; rw [List.length_singleton, this]; show (k + 1) * 32 ≤ _; omega) rfl rfl rfl rfl (fun A9 n9 c9 w9 hG => ?_)
        have hT9 : Turn T wr w9 := hHeld.grown hG.grown (fun k hk => .inl (by rw [← HX.out.2.2.2.2.2.2.2.2.1, Option.mem_toList]; exact hk))
        have H9 := Lib.hid (And.intro hG hT9)
        clear hG hT9
        refine hK.out _ _ H9.out.2 (fun hHeld => ?_)
        clear hK K
        try simp only [Act.put, List.setIfInBounds_toArray, List.set_cons_zero, List.set_cons_succ]
        refine takeL (i := 16) (v := ?_) rfl (by kernel_rfl) (by kernel_rfl) (by kernel_rfl) (fun _ _ _ h => h) (Or.inl ⟨by rfl, ?_⟩) hHeld ?_
        rotate_left
        focus (intro wq hSw; clear hSw; go_simp; try with_reducible rfl)
        try simp only [Act.put, List.setIfInBounds_toArray, List.set_cons_zero, List.set_cons_succ]
        refine wpAnyH_done (by kernel_rfl) ?_ _
        refine NoPanic.normal ?_
        try simp only [Exit.then]
        have hO9 : Old w w9 := below_turn HX.out.2.2.1 H9.out.2 (by rw [hX]; exact HX.out.2.2.2.2.2.2.2.2.2.1) HX.out.2.2.1.size
        have z0 := cell_turn HX.out.2.2.2.2.1 H9.out.2 HX.out.2.2.2.2.2.2.2.2.2.2.1
        have hown : ∀ p : PutV, Own w2 X (.slice p.A p.n p.c) p.l → Own w9 X (.slice p.A p.n p.c) p.l := fun p hp => by
          have hp2 := hp.below ((Old.refl w2).alloc (.cells #[.int .i64 xb, .slice (some ⟨g2, 0, none⟩) 100 100] 42))
          refine hp2.keep fun g' hg' => ?_
          refine H9.out.1.grown.block g' (hp2.lt hg').2 (fun e => ?_)
          obtain ⟨cs, hbk⟩ := OwnE.blk (hP2.1.below ((Old.refl w2).alloc (.cells #[.int .i64 xb, .slice (some ⟨g2, 0, none⟩) 100 100] 42))) (g := g') e.symm
          exact hp2.ne hbk (by decide) hg'
        have hfin : PutsOwn w9 X (.slice A9 n9 c9) (ps ++ [⟨xb, some ⟨g2, 0, none⟩, 100, 100, full xl 100⟩]) := ⟨H9.out.1.own, fun r hr => by
          rcases List.mem_append.1 hr with hr | hr
          · exact hown r (hP2.2 r hr)
          · simp at hr; subst hr; exact hown _ hO2'⟩
        have hmap : (ps ++ [⟨xb, some ⟨g2, 0, none⟩, 100, 100, full xl 100⟩] : List PutV).map (fun p => (p.blk, p.l)) = plainP (ins.take (k + 1)) := by
          rw [List.map_append, HX.out.2.1, List.take_add_one, HX.out.2.2.2.2.2.2.1]
          unfold plainP
          rw [List.map_append]
          rfl
        have hok : (ok0 && (ps ++ [⟨xb, some ⟨g2, 0, none⟩, 100, 100, full xl 100⟩] : List PutV).all (okP Bk)) = (qv && (decide (0 ≤ xb) && decide (xb < (Bk : Int)) && !true)) := by
          rw [List.all_append, ← Bool.and_assoc, HX.out.2.2.2.2.2.2.2.1, List.all_cons, List.all_nil, Bool.and_true]
          exact congrArg (qv && ·) (InP.okP Bk ⟨xb, xA, xn, xc, xl, true⟩ (some ⟨g2, 0, none⟩) 100 100)
        have HF := Lib.hid (And.intro hfin (And.intro hmap (And.intro hok hO9)))
        clear hfin hmap hok hO9 hown hP2 hO2' hHeld hT2
        cases qv with
        | false =>
          go_wp2_with fail
          go_roundw
          case measure => simp [intOf]; omega
          exact ⟨k + 1, A9, n9, c9, _, by omega, rfl, by rw [HF.out.2.2.1]; simp, by simp, HF.out.1, HF.out.2.1, HF.out.2.2.2⟩
        | true =>
          by_cases h0 : 0 ≤ xb
          · have h0d : decide (0 ≤ xb) = true := decide_eq_true h0
            by_cases h1 : xb < (Bk : Int)
            · have h1d : decide (xb < (Bk : Int)) = true := decide_eq_true h1
              go_wp2_with fail
              go_roundw
              case measure => simp [intOf]; omega
              exact ⟨k + 1, A9, n9, c9, _, by omega, rfl, by rw [HF.out.2.2.1]; simp [h0, h1], by simp, HF.out.1, HF.out.2.1, HF.out.2.2.2⟩
            · have h1d : decide (xb < (Bk : Int)) = false := decide_eq_false h1
              go_wp2_with fail
              go_roundw
              case measure => simp [intOf]; omega
              exact ⟨k + 1, A9, n9, c9, _, by omega, rfl, by rw [HF.out.2.2.1]; simp [h0, h1], by simp, HF.out.1, HF.out.2.1, HF.out.2.2.2⟩
          · have h0d : decide (0 ≤ xb) = false := decide_eq_false h0
            go_wp2_with fail
            go_roundw
            case measure => simp [intOf]; omega
            exact ⟨k + 1, A9, n9, c9, _, by omega, rfl, by rw [HF.out.2.2.1]; simp [h0], by simp, HF.out.1, HF.out.2.1, HF.out.2.2.2⟩
      | false =>
        go_wp2_with fail
        refine region_turn T (by kernel_rfl) (fun wd hOd hHeld hSz => ?_)
        have HSz := Lib.hid hSz
        clear hSz
        refine takeL (i := 0) (v := ?_) rfl (by kernel_rfl) (by kernel_rfl) (by kernel_rfl) (fun _ _ _ h => h) (Or.inl ⟨by rfl, ?_⟩) hHeld ?_
        rotate_left
        focus (intro wq hSw; clear hSw; go_simp; try with_reducible rfl)
        try simp only [Act.put, List.setIfInBounds_toArray, List.set_cons_zero, List.set_cons_succ]
        refine takeL (i := 1) (v := ?_) rfl (by kernel_rfl) (by kernel_rfl) (by kernel_rfl) (fun _ _ _ h => h) (Or.inl ⟨by rfl, ?_⟩) hHeld ?_
        rotate_left
        focus (intro wq hSw; clear hSw; go_simp; try with_reducible rfl)
        try simp only [Act.put, List.setIfInBounds_toArray, List.set_cons_zero, List.set_cons_succ]
        refine takeL (i := 2) (v := ?_) rfl (by kernel_rfl) (by kernel_rfl) (by kernel_rfl) (fun _ _ _ h => h) (Or.inl ⟨by rfl, ?_⟩) hHeld ?_
        rotate_left
        focus (intro wq hSw; clear hSw; go_simp; try with_reducible rfl)
        try simp only [Act.put, List.setIfInBounds_toArray, List.set_cons_zero, List.set_cons_succ]
        refine takeL (i := 3) (v := ?_) rfl (by kernel_rfl) (by kernel_rfl) (by kernel_rfl) (fun _ _ _ h => h) (Or.inl ⟨by rfl, ?_⟩) hHeld ?_
        rotate_left
        focus (intro wq hSw; clear hSw; go_simp; try with_reducible rfl)
        try simp only [Act.put, List.setIfInBounds_toArray, List.set_cons_zero, List.set_cons_succ]
        refine takeL (i := 4) (v := ?_) rfl (by kernel_rfl) (by kernel_rfl) (by kernel_rfl) (fun _ _ _ h => h) (Or.inl ⟨by rfl, ?_⟩) hHeld ?_
        rotate_left
        focus (intro wq hSw; clear hSw; go_simp; try with_reducible rfl)
        try simp only [Act.put, List.setIfInBounds_toArray, List.set_cons_zero, List.set_cons_succ]
        refine takeL (i := 5) (v := ?_) rfl (by kernel_rfl) (by kernel_rfl) (by kernel_rfl) (fun _ _ _ h => h) (Or.inl ⟨by rfl, ?_⟩) hHeld ?_
        rotate_left
        focus (intro wq hSw; have z0 := cell_turn HX.out.2.2.2.2.1 hSw HX.out.2.2.2.2.2.2.2.2.2.2.1; clear hSw; go_simp; try with_reducible rfl)
        try simp only [Act.put, List.setIfInBounds_toArray, List.set_cons_zero, List.set_cons_succ]
        refine takeL (i := 6) (v := ?_) rfl (by kernel_rfl) (by kernel_rfl) (by kernel_rfl) (fun _ _ _ h => h) (Or.inl ⟨by rfl, ?_⟩) hHeld ?_
        rotate_left
        focus (intro wq hSw; clear hSw; go_simp; try with_reducible rfl)
        try simp only [Act.put, List.setIfInBounds_toArray, List.set_cons_zero, List.set_cons_succ]
        refine takeL (i := 7) (v := ?_) rfl (by kernel_rfl) (by kernel_rfl) (by kernel_rfl) (fun _ _ _ h => h) (Or.inl ⟨by rfl, ?_⟩) hHeld ?_
        rotate_left
        focus (intro wq hSw; clear hSw; go_simp; try with_reducible rfl)
        try simp only [Act.put, List.setIfInBounds_toArray, List.set_cons_zero, List.set_cons_succ]
        refine takeL (i := 8) (v := ?_) rfl (by kernel_rfl) (by kernel_rfl) (by kernel_rfl) (fun _ _ _ h => h) (Or.inl ⟨by rfl, ?_⟩) hHeld ?_
        rotate_left
        focus (intro wq hSw; clear hSw; go_simp; try with_reducible rfl)
        try simp only [Act.put, List.setIfInBounds_toArray, List.set_cons_zero, List.set_cons_succ]
        refine takeL (i := 9) (v := ?_) rfl (by kernel_rfl) (by kernel_rfl) (by kernel_rfl) (fun _ _ _ h => h) (Or.inl ⟨by rfl, ?_⟩) hHeld ?_
        rotate_left
        focus (intro wq hSw; clear hSw; go_simp; try with_reducible rfl)
        try simp only [Act.put, List.setIfInBounds_toArray, List.set_cons_zero, List.set_cons_succ]
        refine takeL (i := 10) (v := ?_) rfl (by kernel_rfl) (by kernel_rfl) (by kernel_rfl) (fun _ _ _ h => h) (Or.inl ⟨by rfl, ?_⟩) hHeld ?_
        rotate_left
        focus (intro wq hSw; have z1 := cell_turn HX.out.2.2.2.2.2.1 hSw HX.out.2.2.2.2.2.2.2.2.2.2.1; clear hSw; go_simp; try with_reducible rfl)
        try simp only [Act.put, List.setIfInBounds_toArray, List.set_cons_zero, List.set_cons_succ]
        refine takeL (i := 11) (v := ?_) rfl (by kernel_rfl) (by kernel_rfl) (by kernel_rfl) (fun _ _ _ h => h) (Or.inl ⟨by rfl, ?_⟩) hHeld ?_
        rotate_left
        focus (intro wq hSw; clear hSw; go_simp; try with_reducible rfl)
        try simp only [Act.put, List.setIfInBounds_toArray, List.set_cons_zero, List.set_cons_succ]
        refine wpAnyH_ready (rs := [12]) (by kernel_rfl) (by simp) ?_
        refine consL rfl (fun K hK => ?_) AllReadyH.nil
        go_simp
        refine (full_e xA xn xc 256 xl wd (HX.out.2.2.2.1.below (Old.trans HX.out.2.2.1 hOd)) (by omega)).mono ?_
        rintro e w2 ⟨g2, rfl, hO2, hb2⟩
        have hT2 := hHeld.trans (Turn.of_below T hb2) (fun x hx => .inl hx)
        have hP2 : PutsOwn w2 X (.slice A5 n5 c5) ps := (HX.out.1.below hOd).below hb2
        have hs2 : X ≤ w2.heap.size := Nat.le_trans HX.out.2.2.2.2.2.2.2.2.2.2.2.2.1 hT2.size
        have hO2' := hO2.mono (show X ≤ wd.heap.size from Nat.le_trans HX.out.2.2.2.2.2.2.2.2.2.2.2.2.1 hOd.size)
        clear hO2 hb2
        refine hK.out _ _ hT2 (fun hHeld => ?_)
        clear hK K
        try simp only [Act.put, List.setIfInBounds_toArray, List.set_cons_zero, List.set_cons_succ]
        refine takeL (i := 13) (v := ?_) rfl (by kernel_rfl) (by kernel_rfl) (by kernel_rfl) (fun _ _ _ h => h) (Or.inl ⟨by rfl, ?_⟩) hHeld ?_
        rotate_left
        focus (intro wq hSw; clear hSw; go_simp; try with_reducible rfl)
        try simp only [Act.put, List.setIfInBounds_toArray, List.set_cons_zero, List.set_cons_succ]
        refine wpAnyH_ready (rs := [14]) (by kernel_rfl) (by simp) ?_
        refine consL rfl (fun K hK => ?_) AllReadyH.nil
        go_simp
        refine hK.out _ _ (hHeld.alloc _) (fun hHeld => ?_)
        clear hK K
        try simp only [Act.put, List.setIfInBounds_toArray, List.set_cons_zero, List.set_cons_succ]
        refine wpAnyH_ready (rs := [15]) (by kernel_rfl) (by simp) ?_
        refine consL rfl (fun K hK => ?_) AllReadyH.nil
        refine step_appG Tryd.eP (.tmp 25) (.tmp 39) X (.slice A5 n5 c5) ps (hP2.1.below ((Old.refl w2).alloc _)) (by simp; omega) (some ⟨w2.heap.size, 0, none⟩) 1 1 [⟨xb, some ⟨g2, 0, none⟩, 256, 256, full xl 256⟩] (Blk.rdC Tryd.eP (Blk.new _ _ _) rfl) (fun h => by cases h) (by decide) (by have := HX.out.2.2.2.2.2.2.2.2.2.2.2.1; rw [List.length_singleton, this]; show (k + 1) * 32 ≤ _; omega) rfl rfl rfl rfl (fun A9 n9 c9 w9 hG => ?_)
        have hT9 : Turn T wr w9 := hHeld.grown hG.grown (fun k hk => .inl (by rw [← HX.out.2.2.2.2.2.2.2.2.1, Option.mem_toList]; exact hk))
        have H9 := Lib.hid (And.intro hG hT9)
        clear hG hT9
        refine hK.out _ _ H9.out.2 (fun hHeld => ?_)
        clear hK K
        try simp only [Act.put, List.setIfInBounds_toArray, List.set_cons_zero, List.set_cons_succ]
        refine takeL (i := 16) (v := ?_) rfl (by kernel_rfl) (by kernel_rfl) (by kernel_rfl) (fun _ _ _ h => h) (Or.inl ⟨by rfl, ?_⟩) hHeld ?_
        rotate_left
        focus (intro wq hSw; clear hSw; go_simp; try with_reducible rfl)
        try simp only [Act.put, List.setIfInBounds_toArray, List.set_cons_zero, List.set_cons_succ]
        refine wpAnyH_done (by kernel_rfl) ?_ _
        refine NoPanic.normal ?_
        try simp only [Exit.then]
        have hO9 : Old w w9 := below_turn HX.out.2.2.1 H9.out.2 (by rw [hX]; exact HX.out.2.2.2.2.2.2.2.2.2.1) HX.out.2.2.1.size
        have z0 := cell_turn HX.out.2.2.2.2.1 H9.out.2 HX.out.2.2.2.2.2.2.2.2.2.2.1
        have hown : ∀ p : PutV, Own w2 X (.slice p.A p.n p.c) p.l → Own w9 X (.slice p.A p.n p.c) p.l := fun p hp => by
          have hp2 := hp.below ((Old.refl w2).alloc (.cells #[.int .i64 xb, .slice (some ⟨g2, 0, none⟩) 256 256] 42))
          refine hp2.keep fun g' hg' => ?_
          refine H9.out.1.grown.block g' (hp2.lt hg').2 (fun e => ?_)
          obtain ⟨cs, hbk⟩ := OwnE.blk (hP2.1.below ((Old.refl w2).alloc (.cells #[.int .i64 xb, .slice (some ⟨g2, 0, none⟩) 256 256] 42))) (g := g') e.symm
          exact hp2.ne hbk (by decide) hg'
        have hfin : PutsOwn w9 X (.slice A9 n9 c9) (ps ++ [⟨xb, some ⟨g2, 0, none⟩, 256, 256, full xl 256⟩]) := ⟨H9.out.1.own, fun r hr => by
          rcases List.mem_append.1 hr with hr | hr
          · exact hown r (hP2.2 r hr)
          · simp at hr; subst hr; exact hown _ hO2'⟩
        have hmap : (ps ++ [⟨xb, some ⟨g2, 0, none⟩, 256, 256, full xl 256⟩] : List PutV).map (fun p => (p.blk, p.l)) = plainP (ins.take (k + 1)) := by
          rw [List.map_append, HX.out.2.1, List.take_add_one, HX.out.2.2.2.2.2.2.1]
          unfold plainP
          rw [List.map_append]
          rfl
        have hok : (ok0 && (ps ++ [⟨xb, some ⟨g2, 0, none⟩, 256, 256, full xl 256⟩] : List PutV).all (okP Bk)) = (qv && (decide (0 ≤ xb) && decide (xb < (Bk : Int)) && !false)) := by
          rw [List.all_append, ← Bool.and_assoc, HX.out.2.2.2.2.2.2.2.1, List.all_cons, List.all_nil, Bool.and_true]
          exact congrArg (qv && ·) (InP.okP Bk ⟨xb, xA, xn, xc, xl, false⟩ (some ⟨g2, 0, none⟩) 256 256)
        have HF := Lib.hid (And.intro hfin (And.intro hmap (And.intro hok hO9)))
        clear hfin hmap hok hO9 hown hP2 hO2' hHeld hT2
        cases qv with
        | false =>
          go_wp2_with fail
          go_roundw
          case measure => simp [intOf]; omega
          exact ⟨k + 1, A9, n9, c9, _, by omega, rfl, by rw [HF.out.2.2.1]; simp, by simp, HF.out.1, HF.out.2.1, HF.out.2.2.2⟩
        | true =>
          by_cases h0 : 0 ≤ xb
          · have h0d : decide (0 ≤ xb) = true := decide_eq_true h0
            by_cases h1 : xb < (Bk : Int)
            · have h1d : decide (xb < (Bk : Int)) = true := decide_eq_true h1
              go_wp2_with fail
              go_roundw
              case measure => simp [intOf]; omega
              exact ⟨k + 1, A9, n9, c9, _, by omega, rfl, by rw [HF.out.2.2.1]; simp [h0, h1], by simp, HF.out.1, HF.out.2.1, HF.out.2.2.2⟩
            · have h1d : decide (xb < (Bk : Int)) = false := decide_eq_false h1
              go_wp2_with fail
              go_roundw
              case measure => simp [intOf]; omega
              exact ⟨k + 1, A9, n9, c9, _, by omega, rfl, by rw [HF.out.2.2.1]; simp [h0, h1], by simp, HF.out.1, HF.out.2.1, HF.out.2.2.2⟩
          · have h0d : decide (0 ≤ xb) = false := decide_eq_false h0
            go_wp2_with fail
            go_roundw
            case measure => simp [intOf]; omega
            exact ⟨k + 1, A9, n9, c9, _, by omega, rfl, by rw [HF.out.2.2.1]; simp [h0], by simp, HF.out.1, HF.out.2.1, HF.out.2.2.2⟩
    · obtain rfl : k = m := by omega
      have hlti : ¬ (k : Int) < k := by omega
      have hltd : decide ((k : Int) < (k : Int)) = false := decide_eq_false hlti
      have hn5 : n5 = k := by
        have h1 := hP.1.len
        have h2 := congrArg List.length hps
        rw [List.length_map] at h2
        unfold plainP at h2
        rw [List.length_map, List.length_take, H.out.2.1] at h2
        omega
      have HP := Lib.hid (And.intro hP (And.intro hps hO))
      clear hP hps hO
      subst hn5
      have hpl : ps.length = n5 := HP.out.1.1.len.symm
      have hmp : mayP Bk ps = (ok0 && ps.all (okP Bk)) := by
        unfold mayP
        rw [hpl, H.out.2.2.2]
      obtain ⟨q, hq⟩ : ∃ q, (ok0 && ps.all (okP Bk)) = q := ⟨_, rfl⟩
      rw [hq] at hmp ⊢
      have HM := Lib.hid hmp
      clear hmp hq hpl hok0
      go_wp2_with fail
      refine bodyPost_ret (results_tmp2 rfl _ _ _) rfl ?_
      exact ⟨_, _, ps, by rw [HM.out]; rfl, HP.out.1, by have := HP.out.2.1; rw [List.take_of_length_le (by rw [H.out.2.1]; omega)] at this; exact this, HP.out.2.2⟩
end Go.Proofs.YtomngfihaohgdaaDoor
namespace Go.Proofs.YtomngfihaohgdaaDoor
set_option maxRecDepth 100000
open Go.RowKit

/-- What Commit leaves. -/
def ComPost (w : World) (v d L B c : Nat) (s : Dsk) (m : List (List UInt8)) (ps : List PutV) (e : Ending) (w' : World) : Prop :=
  (mayP B ps = false ∧ e = .returned (.int .i64 7) ∧ Old w w') ∨
  (mayP B ps = true ∧ ps = [] ∧ e = .returned (.int .i64 0) ∧ Old w w') ∨
  (mayP B ps = true ∧ 0 < ps.length ∧ e = .returned (.int .i64 (if (s.turnW headB c (after m (ps.map toPut))).1 = true then 0 else 48)) ∧ DkAt w' d L (s.turnW headB c (after m (ps.map toPut))).2 ∧
    VolB w' v d B (if (s.turnW headB c (after m (ps.map toPut))).1 = true then c + 1 else c) (!(s.turnW headB c (after m (ps.map toPut))).1) ∧ Turn [d, L, v] w w')
theorem commit_two (v d L B c k base : Nat) (A : Option Addr) (n cp : Nat) (ps : List PutV) (s : Dsk) (m : List (List UInt8)) (w : World) (hV : VolB w v d B c false) (hD : DkAt w d L s) (hK : KAt w)
    (hP : PutsOwn w base (.slice A n cp) ps) (hg : Good headB s c m) (hB : (s.n - 8) / 2 = B) (hc : c < 10000) (hf : FOk s k) (hk : k < 10000) :
    Calls Tryd.prog 17 #[.pointer (some ⟨v, 0, none⟩), .slice A n cp] w (ComPost w v d L B c s m ps) := by
  obtain rfl : n = ps.length := hP.1.len
  have h16 := hg.n16
  have h60 := hg.n60
  have hml : m.length = B := by rw [hg.len, hB]
  by_cases h0 : ps.length = 0
  · have hps : ps = [] := List.eq_nil_of_length_eq_zero h0
    subst hps
    refine (commit_empty v d B c false A cp w hV (by omega)).mono ?_
    rintro e w' ⟨rfl, rfl⟩
    exact .inr (.inl ⟨by unfold mayP; simp, rfl, rfl, Old.refl _⟩)
  · obtain ⟨P, rfl, hPA, _⟩ := hP.at_ (by omega)
    cases hm : mayP B ps with
    | false =>
      refine (commit_bad v d B c false P cp ps w hV hPA (by omega) hm).mono ?_
      rintro e w' ⟨rfl, hO⟩
      exact .inl ⟨hm, rfl, hO⟩
    | true =>
      refine (commit_any v d L B c k P cp ps s m w hV hD hK hPA (fun p hp ad had => ?_) hm hB h16 h60 hc hf hk hml (fun i b hi => by have := hg.side i b hi; rwa [hB] at this) (by omega)).mono ?_
      · have hOw := hP.2 p hp
        exact hOw.beside hD ad.block (by rw [had]; rfl)
      · rintro e w' ⟨h1, h2, h3, h4⟩
        exact .inr (.inr ⟨hm, by omega, h1, h2, h3, h4⟩)
theorem turn_live {s : Dsk} {c k : Nat} {m m2 : List (List UInt8)} (hg : Good headB s c m) (hf : FOk s k) (hu : s.fused = false) (hd : s.dead = false) (hl : m2.length = (s.n - 8) / 2) :
    ∃ s', s.turnW headB c m2 = (true, s') ∧ Good headB s' (c + 1) m2 ∧ FOk s' (k + 1000) ∧ s'.n = s.n ∧ s'.fused = false ∧ s'.dead = false := by
  obtain ⟨h1, h2, h3, _⟩ := turn_spec hg hf hl
  obtain ⟨ok, s', hs⟩ : ∃ ok s', s.turnW headB c m2 = (ok, s') := ⟨_, _, rfl⟩
  rw [hs] at h1 h2 h3
  obtain ⟨a1, a2⟩ := h1.alive hu hd
  simp only at a1 a2 h2 h3
  subst a2
  exact ⟨s', hs, h3 rfl, h2, h1.n, h1.fused.trans hu, a1⟩
theorem may_in {B : Nat} {ps : List PutV} (h : mayP B ps = true) : ps.length ≤ B ∧ ∀ p ∈ ps, 0 ≤ p.blk ∧ p.blk < B := by
  unfold mayP at h
  rw [Bool.and_eq_true, decide_eq_true_iff, List.all_eq_true] at h
  refine ⟨h.1, fun p hp => ?_⟩
  have := h.2 p hp
  unfold okP at this
  simp at this
  exact ⟨this.1.1, this.1.2⟩
/-- The plain side of a list of commits: how many there were, the blocks. -/
def madeF (B : Nat) (st : Nat × List (List UInt8)) (ps : List (Int × List UInt8)) : Nat × List (List UInt8) :=
  if ps.length ≤ B ∧ ∀ p ∈ ps, 0 ≤ p.1 ∧ p.1 < B ∧ p.2.length = 256 then (if ps = [] then st else (st.1 + 1, after st.2 (ps.map fun p => (p.1.toNat, p.2)))) else st
end Go.Proofs.YtomngfihaohgdaaDoor
namespace Go.Proofs.YtomngfihaohgdaaDoor
set_option maxRecDepth 100000
open Go.RowKit Go.ChangeShapes Go.WideShapes Go.ChangeAt Go.Deep

section
variable {H : Type} {enc : TypeId × Value → H}
theorem open_sliceF {α : Type} (E : ETy α) (Good : α → Prop) {W : World} {fuel : Nat} {v : Value} {y : DataW H × List MemPlace} (hC : Tryd.prog.cellsOf E.t = E.sz)
    (hinv : ∀ n cs y, DataW.trod enc Tryd.prog W 0 (fun _ => true) true n E.t cs = some y → ∃ x, cs = E.cells x ∧ Good x)
    (hfirst : ∀ x, ∃ v, (E.cells x)[0]? = some v ∧ ∃ k n, v = .int k n ∨ ∃ b, v = .bool b)
    (hf : DataW.trod enc Tryd.prog W 0 (fun _ => true) true fuel E.ts [v] = some y) :
    ∃ A m c l, v = .slice A m c ∧ m ≤ maxLen ∧ (A = none → c = 0) ∧ RdC E W A m l ∧ (∀ x ∈ l, Good x) ∧ ((∀ q ∈ y.1.weights Tryd.prog E.ts, q ≤ reachBytes) → m * Tryd.prog.bytesOf E.t ≤ reachBytes) := by
  rcases open_slice E.und hf with ⟨hcs, hx⟩ | ⟨a, len, cap, m, n, D, Pl, hcs, _, hl, hm, hmm, hx, hr⟩
  · simp at hcs
    subst hcs
    exact ⟨_, _, _, [], rfl, Nat.zero_le _, fun _ => rfl, ⟨rfl, .inl rfl⟩, by simp, by simp⟩
  · simp at hcs
    subst hcs
    simp only [if_true] at hmm
    have hwt : (∀ q ∈ y.1.weights Tryd.prog E.ts, q ≤ reachBytes) → len * Tryd.prog.bytesOf E.t ≤ reachBytes := fun h => by
      have h1 := h ((((List.range len).map D).length + ((List.range (m - len)).map fun j => D (len + j)).length) * Tryd.prog.bytesOf E.t) (by rw [hx]; simp [DataW.weights, E.und])
      exact Nat.le_trans (Nat.mul_le_mul_right _ (by simp)) h1
    have hpos := E.pos
    have key0 : ∀ i, i < len → ∃ x, Good x ∧ ∀ (j : Nat) (u : Value), (E.cells x)[j]? = some u → W.cell? ((a.add (i * E.sz)).add j) = some u := by
      intro i hi
      obtain ⟨cs', hcell, htr⟩ := hr i (by omega)
      rw [hC] at hcell
      obtain ⟨x, hcs', hg⟩ := hinv _ _ _ htr
      obtain ⟨_, hcl, hat⟩ := World.cells?_some hcell
      refine ⟨x, hg, fun j u hu => ?_⟩
      have hj : j < E.sz := by
        rw [← E.len x]
        exact (List.getElem?_eq_some_iff.1 hu).1
      rw [hat j hj, hcs']
      exact hu
    rcases Nat.eq_zero_or_pos len with h0 | h0
    · subst h0
      exact ⟨_, _, _, [], rfl, Nat.zero_le _, (fun h => nomatch h), ⟨rfl, .inl rfl⟩, by simp, hwt⟩
    · obtain ⟨x0, _, k0⟩ := key0 0 h0
      obtain ⟨v0, hv0, hf0⟩ := hfirst x0
      have hsp0 := addr_of_cellE (k0 0 _ hv0) hf0
      have ha0 : (a.add (0 * E.sz)).add 0 = a := by rw [Nat.zero_mul]; rfl
      rw [ha0] at hsp0
      obtain ⟨ab, ao, sp⟩ := a
      obtain ⟨hsp, hlt⟩ := hsp0
      simp only at hsp hlt
      subst hsp
      have key : ∀ i, i < len → ∃ x, Good x ∧ ∀ (j : Nat) (u : Value), (E.cells x)[j]? = some u → W.cell? ⟨ab, ao + (i * E.sz + j), none⟩ = some u := by
        intro i hi
        obtain ⟨x, hg, g1⟩ := key0 i hi
        refine ⟨x, hg, fun j u hu => ?_⟩
        have := g1 j u hu
        rwa [Addr.add_lit, Addr.add_mid, Nat.add_assoc] at this
      let L := (List.range len).attach.map fun i => Classical.choose (key i.1 (List.mem_range.1 i.2))
      have hL : ∀ (j : Nat) (x : α), L[j]? = some x → Good x ∧ ∀ (i : Nat) (u : Value), (E.cells x)[i]? = some u → W.cell? ⟨ab, ao + (j * E.sz + i), none⟩ = some u := by
        intro j x hj
        simp only [L] at hj
        rw [List.getElem?_map] at hj
        cases hq : (List.range len).attach[j]? with
        | none => rw [hq] at hj; cases hj
        | some q =>
          rw [hq] at hj
          simp only [Option.map_some, Option.some.injEq] at hj
          have hqj : q.1 = j := by
            obtain ⟨hl2, hq2⟩ := List.getElem?_eq_some_iff.1 hq
            rw [← hq2]; simp
          have := Classical.choose_spec (key q.1 (List.mem_range.1 q.2))
          rw [hj, hqj] at this
          exact this
      have hLl : L.length = len := by simp [L]
      clear_value L
      refine ⟨_, len, cap, L, rfl, (show len ≤ maxLen by omega), (fun h => nomatch h), ⟨hLl, .inr ⟨ab, ao, rfl, hlt, fun j u hu => ?_⟩⟩, fun x hx => ?_, hwt⟩
      · have hjl : j < L.length * E.sz := by
          rw [← E.all_len]
          exact (List.getElem?_eq_some_iff.1 hu).1
        have hq : j / E.sz < L.length := Nat.div_lt_of_lt_mul (by rw [Nat.mul_comm]; exact hjl)
        obtain ⟨x, hx⟩ : ∃ x, L[j / E.sz]? = some x := ⟨_, List.getElem?_eq_getElem hq⟩
        have hr' : j % E.sz < E.sz := Nat.mod_lt _ hpos
        have hj : j = j / E.sz * E.sz + j % E.sz := by rw [Nat.mul_comm]; exact (Nat.div_add_mod j E.sz).symm
        have h1 := E.all_get L _ x hx _ hr'
        rw [← hj, hu] at h1
        have := (hL _ x hx).2 _ u h1.symm
        rwa [← hj] at this
      · obtain ⟨j, hj⟩ := List.getElem?_of_mem hx
        exact (hL j x hj).1
theorem puts_trod {W : World} {n : Nat} {v : Value} {y : DataW H × List MemPlace} (h : DataW.trod enc Tryd.prog W 0 (fun _ => true) true n 50 [v] = some y) :
    ∃ A m c l, v = .slice A m c ∧ m ≤ maxLen ∧ InsAt W A m l ∧ ((∀ q ∈ y.1.weights Tryd.prog 50, q ≤ reachBytes) → m ≤ 3518437208780) := by
  obtain ⟨A, m, c, l, h1, h2, _, h3, h4, h5⟩ := open_sliceF Tryd.eJ (InP.ok W) (by kernel_rfl) (fun n cs y h => put_trod h) (fun x => ⟨_, rfl, .i64, x.blk, .inl rfl⟩) h
  refine ⟨A, m, c, l, h1, h2, ⟨h3, h4⟩, fun h => ?_⟩
  have := h5 h
  rw [show Tryd.prog.bytesOf Tryd.eJ.t = 40 from by kernel_rfl] at this
  unfold reachBytes at this
  omega
theorem weights_all {P : Program} {e : TypeId} : ∀ {ds : List (DataW H)} {d : DataW H}, d ∈ ds → ∀ q ∈ d.weights P e, q ∈ DataW.weightsAll P e ds
  | [], d, h, q, _ => by cases h
  | x :: r, d, h, q, hq => by
    simp only [DataW.weightsAll, List.mem_append]
    rcases List.mem_cons.1 h with rfl | h
    · exact .inl hq
    · exact .inr (weights_all h q hq)
theorem open_putsB {W : World} {base : Nat} {v : Value} {d : DataW H} {p : List MemPlace} (hval : Value.okWide Tryd.prog W .any base 50 v) (h : DataW.Trod enc Tryd.prog W 0 (fun _ => true) true 50 v d p)
    (hw : ∀ q ∈ d.weights Tryd.prog 50, q ≤ reachBytes) : ∃ A m c l, v = .slice A m c ∧ m ≤ 3518437208780 ∧ InsAt W A m l := by
  obtain ⟨fuel, hf⟩ := h
  have hc : v.cells.toList = [v] := by
    obtain ⟨a1, len, cap, rfl⟩ := okWide_slice Tryd.underlying50 hval
    rfl
  rw [hc] at hf
  obtain ⟨A, m, c, l, h1, _, h3, h4⟩ := puts_trod hf
  exact ⟨A, m, c, l, h1, h4 hw, h3⟩
/-- Lists of puts in a row. -/
def CmAt (W : World) (A : Option Addr) (m : Nat) (css : List (List InP)) : Prop :=
  css.length = m ∧ (m = 0 ∨ ∃ b off, A = some ⟨b, off, none⟩ ∧ b < W.heap.size ∧ ∀ (j : Nat) (ins : List InP), css[j]? = some ins → ∃ Aj mj cj, W.cell? ⟨b, off + j, none⟩ = some (.slice Aj mj cj) ∧ mj ≤ 3518437208780 ∧ InsAt W Aj mj ins)
theorem open_putss {W : World} {base : Nat} {v : Value} {d : DataW H} {p : List MemPlace} (hval : Value.okWide Tryd.prog W .any base 22 v) (h : DataW.Trod enc Tryd.prog W 0 (fun _ => true) true 22 v d p)
    (hw : ∀ q ∈ d.weights Tryd.prog 22, q ≤ reachBytes) :
    ∃ A m c css, v = .slice A m c ∧ m ≤ maxLen ∧ CmAt W A m css := by
  have hval' := hval
  obtain ⟨a1, len, cap, rfl⟩ := okWide_slice Tryd.underlying22 hval
  obtain ⟨fuel, hf⟩ := h
  rcases open_slice Tryd.underlying22 hf with ⟨hcs, hx⟩ | ⟨a, len', cap', m, n, D, Pl, hcs, _, hl, hm, hmm, hx, hr⟩
  · simp [Value.cells] at hcs
    obtain ⟨rfl, rfl, rfl⟩ := hcs
    exact ⟨_, _, _, [], rfl, Nat.zero_le _, rfl, .inl rfl⟩
  · simp [Value.cells] at hcs
    obtain ⟨rfl, rfl, rfl⟩ := hcs
    simp only [if_true] at hmm
    unfold Value.okWide Cell.okWide Cell.ok at hval'
    rw [Tryd.underlying22] at hval'
    obtain ⟨_, _, _, hspot, row, cells, hsh, _⟩ := hval'
    have hlt : a.block < W.heap.size := by
      unfold World.shape? at hsh
      rcases Nat.lt_or_ge a.block W.heap.size with h | h
      · exact h
      · rw [Array.getElem?_eq_none h] at hsh; cases hsh
    obtain ⟨ab, ao, spot⟩ := a
    simp only at hspot hlt
    subst hspot
    have hC : Tryd.prog.cellsOf 50 = 1 := by kernel_rfl
    have key : ∀ i ∈ List.range len, ∃ ins : List InP, ∃ Aj mj cj, W.cell? ⟨ab, ao + i, none⟩ = some (.slice Aj mj cj) ∧ mj ≤ 3518437208780 ∧ InsAt W Aj mj ins := by
      intro i hi
      rw [List.mem_range] at hi
      obtain ⟨cs', hcell, htr⟩ := hr i (by omega)
      rw [hC] at hcell
      obtain ⟨_, hcl, hat⟩ := World.cells?_some hcell
      have h0 := hat 0 (by omega)
      match cs', hcl with
      | [v0], _ =>
        obtain ⟨Aj, mj, cj, l, rfl, _, h2, h1⟩ := puts_trod htr
        refine ⟨l, Aj, mj, cj, ?_, h1 fun q hq => hw q ?_, h2⟩
        rotate_left
        · have hd : d = _ := congrArg Prod.fst hx
          rw [hd]
          simp only [DataW.weights, Tryd.underlying22]
          exact List.mem_cons_of_mem _ (List.mem_append_left _ (weights_all (List.mem_map.2 ⟨i, List.mem_range.2 hi, rfl⟩) q hq))
        rw [Nat.mul_one] at h0
        simpa [Addr.add_lit] using h0
    obtain ⟨css, hlen, hcss⟩ := pick_all (List.range len) key
    rw [List.length_range] at hlen
    refine ⟨_, len, cap, css, rfl, by omega, hlen.symm, .inr ⟨ab, ao, rfl, hlt, fun j ins hj => ?_⟩⟩
    have hjl : j < len := by have := (List.getElem?_eq_some_iff.1 hj).1; omega
    exact hcss j j ins (by rw [List.getElem?_range hjl]) hj
end
end Go.Proofs.YtomngfihaohgdaaDoor
namespace Go.Proofs.YtomngfihaohgdaaDoor
set_option maxRecDepth 100000
open Go.RowKit

theorem results_tmp4 {fn : Func} {t u v x : Tmp} (h : fn.results = #[.tmp t, .tmp u, .tmp v, .tmp x]) (tmps : Array Value) (P : Program) (w : World) :
    (results fn tmps).run P w = .ok (.tuple #[tmps.getD t undef, tmps.getD u undef, tmps.getD v undef, tmps.getD x undef]) w := by
  simp [results, h]
/-- A device, its volume and the blocks, live. -/
structure MdI (w wr : World) (S d L v B n k : Nat) (s : Dsk) (A : Option Addr) (m c : Nat) (rs : List RowV) : Prop where
  D : DkAt wr d L s
  V : VolB wr v d B n false
  G : Good headB s n (rs.map (·.l))
  F : FOk s (1000 * k + 4)
  M : ModAt wr w.heap.size (.slice A m c) rs
  O : Old w wr
  ld : w.heap.size ≤ d
  lL : w.heap.size ≤ L
  lv : w.heap.size ≤ v
  sn : s.n = S
  hB : (S - 8) / 2 = B
  fu : s.fused = false
  de : s.dead = false
  nk : n ≤ k
section
variable {w wr : World} {S d L v B n k : Nat} {s : Dsk} {A : Option Addr} {m c : Nat} {rs : List RowV}
theorem MdI.len (h : MdI w wr S d L v B n k s A m c rs) : rs.length = B := by
  have := h.G.len
  rw [List.length_map, h.sn, h.hB] at this
  exact this
theorem MdI.m_eq (h : MdI w wr S d L v B n k s A m c rs) : m = B := by rw [← h.len]; exact h.M.1.len
theorem MdI.below {w' : World} (h : MdI w wr S d L v B n k s A m c rs) (hb : Old wr w') : MdI w w' S d L v B n k s A m c rs :=
  ⟨h.D.below hb, Blk.below h.V hb, h.G, h.F, h.M.below hb, Old.trans h.O hb, h.ld, h.lL, h.lv, h.sn, h.hB, h.fu, h.de, h.nk⟩
theorem MdI.more {k' : Nat} (h : MdI w wr S d L v B n k s A m c rs) (hk : k ≤ k') : MdI w wr S d L v B n k' s A m c rs :=
  ⟨h.D, h.V, h.G, h.F.mono (by omega), h.M, h.O, h.ld, h.lL, h.lv, h.sn, h.hB, h.fu, h.de, Nat.le_trans h.nk hk⟩
theorem MdI.types (h : MdI w wr S d L v B n k s A m c rs) : ∀ g ∈ [d, L, v], ∃ t cs, Blk wr g t cs ∧ t ≠ 5 ∧ t ≠ 40 ∧ t ≠ 42 := by
  intro g hg
  obtain ⟨⟨c1, h1⟩, c2, h2⟩ := h.D.typed
  rcases List.mem_cons.1 hg with rfl | hg
  · exact ⟨_, _, h1, by decide, by decide, by decide⟩
  rcases List.mem_cons.1 hg with rfl | hg
  · exact ⟨_, _, h2, by decide, by decide, by decide⟩
  rw [List.mem_singleton] at hg
  subst hg
  exact ⟨_, _, h.V, by decide, by decide, by decide⟩
/-- What is left of the rows behind a turn of the device. -/
theorem MdI.turned {w' : World} (h : MdI w wr S d L v B n k s A m c rs) (ht : Turn [d, L, v] wr w') : Old w w' ∧ ModAt w' w.heap.size (.slice A m c) rs ∧
    ∀ base V ps, PutsOwn wr base V ps → PutsOwn w' base V ps := by
  have hT := h.types
  refine ⟨below_turn h.O ht (by have := h.ld; have := h.lL; have := h.lv; simp; omega) h.O.size, h.M.turn ht fun g hg => ?_, fun base V ps hP => hP.turn ht fun g hg => ?_⟩
  · obtain ⟨t, cs, h1, h2, h3, _⟩ := hT g hg
    exact ⟨t, cs, h1, h2, h3⟩
  · obtain ⟨t, cs, h1, h2, _, h3⟩ := hT g hg
    exact ⟨t, cs, h1, h2, h3⟩
/-- The row of a commit's blocks, as after gives it. -/
theorem MdI.after_call (h : MdI w wr S d L v B n k s A m c rs) {w' w2 : World} {base : Nat} {A6 : Option Addr} {c6 : Nat} {ps : List PutV} (hM : ModAt w2 w.heap.size (.slice A m c) rs) (hO : Old w w2) (hb : w.heap.size ≤ base)
    (hP : PutsOwn w2 base (.slice A6 ps.length c6) ps) (hm : mayP B ps = true) :
    Calls Tryd.prog 23 #[.slice A m c, .slice A6 ps.length c6] w2 fun e w' => ∃ A' m' c' rs', e = .returned (.slice A' m' c') ∧ ModAt w' w.heap.size (.slice A' m' c') rs' ∧
      rs'.map (·.l) = after (rs.map (·.l)) (ps.map toPut) ∧ Old w2 w' := by
  obtain ⟨h1, h2⟩ := may_in hm
  have hl := h.len
  have h60 : B ≤ 1000 := by have := h.G.n60; have := h.hB; have := h.sn; omega
  refine (after_any A A6 m c c6 w.heap.size rs ps w2 hM hO.size ?_ (fun p hp => (hP.2 p hp).mono hb) (by rw [hl]; exact h2) (by omega) (by omega)).mono ?_
  · by_cases h0 : 0 < ps.length
    · obtain ⟨P, h3, h4, _⟩ := hP.at_ h0
      exact .inr ⟨P, h3, h4⟩
    · exact .inl (List.eq_nil_of_length_eq_zero (by omega))
  · rintro e w' ⟨A', m', c', rfl, h3, h4⟩
    exact ⟨A', m', c', _, rfl, h3, rowsAfter_map ps rs, h4⟩
/-- Behind a commit that went well. -/
theorem MdI.done (h : MdI w wr S d L v B n k s A m c rs) {w3 w4 : World} {s' : Dsk} {A' : Option Addr} {m' c' : Nat} {rs' : List RowV} (hD : DkAt w3 d L s') (hV : VolB w3 v d B (n + 1) false) (hG : Good headB s' (n + 1) (rs'.map (·.l)))
    (hF : FOk s' (1000 * k + 4 + 1000)) (hn : s'.n = s.n) (hu : s'.fused = false) (hd : s'.dead = false) (ht : Turn [d, L, v] wr w3) (hM : ModAt w4 w.heap.size (.slice A' m' c') rs') (hO : Old w3 w4) :
    MdI w w4 S d L v B (n + 1) (k + 1) s' A' m' c' rs' :=
  ⟨hD.below hO, Blk.below hV hO, hG, hF.mono (by omega), hM, Old.trans (h.turned ht).1 hO, h.ld, h.lL, h.lv, hn.trans h.sn, h.hB, hu, hd, by have := h.nk; omega⟩
end
set_option maxHeartbeats 2000000 in
theorem made_any (S B : Nat) (A : Option Addr) (N c : Nat) (css : List (List InP)) (w : World) (hK : KAt w) (h0 : 16 ≤ S) (h1 : S ≤ 60) (hc : CmAt w A N css) (hN : N ≤ 9223372036854775807) (hB : (S - 8) / 2 = B) :
    Calls Tryd.prog 10 #[.int .i64 (S : Int), .slice A N c] w fun e w' => ∃ (d L v n : Nat) (s : Dsk) (A' : Option Addr) (m' c' : Nat) (rs : List RowV),
      e = .returned (.tuple #[.pointer (some ⟨d, 0, none⟩), .pointer (some ⟨v, 0, none⟩), .slice A' m' c', .int .i64 (n : Int)]) ∧ MdI w w' S d L v B n 6 s A' m' c' rs := by
  have HW := Lib.hid (And.intro hK hc)
  have HBh := Lib.hid hB
  have hn := dk_new S (by omega) (by omega) w
  clear hK hc hB
  go_enter Tryd.func10, Tryd.ntmps10
  go_wp2_with fail
  refine hn.mono ?_
  rintro e w2 ⟨d, L, rfl, hD, hd2, hL2, hO⟩
  obtain ⟨s0, hs0⟩ : ∃ s0, Dsk.new S = s0 := ⟨_, rfl⟩
  have hz := zeroD_new S
  have hsn := new_n S
  have hfo := new_fok S
  have hu0 : (Dsk.new S).fused = false ∧ (Dsk.new S).dead = false := ⟨rfl, rfl⟩
  rw [hs0] at hD hz hsn hfo hu0
  have hK2 := HW.out.1.below hO
  have hft := format_two d L s0 w2 hD (by omega) (by omega) hfo hz hK2
  obtain ⟨ok1, s1, hs1⟩ : ∃ ok1 s1, s0.fmt = (ok1, s1) := ⟨_, _, rfl⟩
  have hfc := fmt_cases hz (by omega) (by omega) hs1
  have hfk := fmt_fok hfo
  rw [hs1] at hfk
  obtain ⟨k1, k2, k3⟩ := hfc.2.2.2 hu0.1 hu0.2
  subst k1
  have hg1 := hfc.2.1 rfl
  have hn1 := hfc.1.trans hsn
  rw [hsn] at hg1
  have hf2 : s0.fmt2 = (true, s1) := by unfold Dsk.fmt2; rw [if_neg (by simp [hu0.2]), hs1]
  rw [hf2] at hft
  simp only [if_true] at hft
  have H2 := Lib.hid (And.intro hD (And.intro hK2 (And.intro hO (And.intro hg1 (And.intro hn1 (And.intro k2 (And.intro k3 hfk)))))))
  obtain ⟨X, hX⟩ : ∃ X, w.heap.size = X := ⟨_, rfl⟩
  rw [hX] at hd2 hL2
  have HX := Lib.hid hX
  clear hn hD hK2 hO hg1 hn1 k2 k3 hfk hfc hu0 hs1 hfo hsn hz hs0 hf2 hX
  go_wp2_with fail
  refine hft.mono ?_
  rintro e w3 ⟨rfl, hD3, hT3⟩
  have hK3 := H2.out.2.1.beside H2.out.1 hT3
  have hm3 := mount_good d L s1 0 _ w3 hD3 H2.out.2.2.2.1 (by omega) H2.out.2.2.2.2.2.1 hK3
  rw [H2.out.2.2.2.2.1] at hm3
  have hO3 : Old w w3 := below_turn H2.out.2.2.1 hT3 (by rw [HX.out]; simp; omega) H2.out.2.2.1.size
  have H3 := Lib.hid (And.intro hD3 hO3)
  clear hft hD3 hT3 hK3 hO3
  go_wp2_with fail
  refine hm3.mono ?_
  rintro e w4 ⟨v, rfl, hv4, hV4, hO4⟩
  have hB := HBh.out
  have hBi : ((S : Int) - 8).tdiv 2 = (B : Int) := by rw [Int.tdiv_eq_ediv_of_nonneg (by omega)]; omega
  have hS60 : (S : Int) ≤ 60 := by omega
  have hS16 : (16 : Int) ≤ S := by omega
  have hBl : B ≤ 26 := by omega
  have hXv : X ≤ v := by have := H3.out.2.size; rw [HX.out] at this; omega
  rw [hB] at hV4
  have H4 := Lib.hid (And.intro (H3.out.1.below hO4) (And.intro hV4 (And.intro (Old.trans H3.out.2 hO4) hB)))
  have hfr := fresh_any B (by omega) w4
  have kv := neVol
  have kv' := neVol'
  clear hm3 hv4 hV4 hO4 hB
  go_wp2_with fail
  clear kv kv'
  refine hfr.mono ?_
  rintro e w5 ⟨A5, m5, c5, rs, rfl, hM5, hrs, hO5⟩
  have hI5 : MdI w w5 S d L v B 0 0 s1 A5 m5 c5 rs := ⟨H4.out.1.below hO5, Blk.below H4.out.2.1 hO5, by rw [hrs, ← H4.out.2.2.2]; exact H2.out.2.2.2.1, H2.out.2.2.2.2.2.2.2, hM5.mono H4.out.2.2.1.size, Old.trans H4.out.2.2.1 hO5,
    by rw [HX.out]; exact hd2, by rw [HX.out]; exact hL2, by rw [HX.out]; exact hXv, H2.out.2.2.2.2.1, H4.out.2.2.2, H2.out.2.2.2.2.2.2.1, H2.out.2.2.2.2.2.1, Nat.le_refl _⟩
  have H5 := Lib.hid hI5
  clear hfr hM5 hrs hO5 hI5
  go_wp2_with fail
  go_loopw [12, 13, 14] (fun mv nv iv wr => ∃ (k n : Nat) (s : Dsk) (A6 : Option Addr) (m6 c6 : Nat) (rs : List RowV), k ≤ N ∧ k ≤ 6 ∧ mv = .slice A6 m6 c6 ∧ nv = .int .i64 (n : Int) ∧ iv = .int .i64 (k : Int) ∧ MdI w wr S d L v B n k s A6 m6 c6 rs) (fun _ _ iv _ => 6 - (intOf iv).toNat)
  case atStart => exact ⟨0, 0, s1, A5, m5, c5, rs, by omega, by omega, rfl, rfl, rfl, H5.out⟩
  case round =>
    obtain ⟨k, n, s, A6, m6, c6, rs, hk, hk6, rfl, rfl, rfl, hI⟩ := hrel
    by_cases hlt : k < N
    · have hlti : (k : Int) < N := by omega
      have hltd : decide ((k : Int) < (N : Int)) = true := decide_eq_true hlti
      by_cases hl6 : k < 6
      · have hl6i : (k : Int) < 6 := by omega
        have hl6d : decide ((k : Int) < 6) = true := decide_eq_true hl6i
        obtain ⟨ins, hins⟩ : ∃ ins, css[k]? = some ins := ⟨_, List.getElem?_eq_getElem (by rw [HW.out.2.1]; exact hlt)⟩
        rcases HW.out.2.2 with hq | ⟨b, off, hA, hbl, hrow⟩
        · omega
        subst hA
        obtain ⟨Aj, mj, cj, hcell, hmj, hat⟩ := hrow k ins hins
        have z0 := cell_old hI.O hcell
        obtain rfl := hI.m_eq
        have hpu := puts_any Aj mj cj m6 ins wr (hat.below hI.O) (by omega) hmj
        have HI := Lib.hid hI
        have hnk := hI.nk
        clear hins hrow hat hI hmj
        go_wp2_with fail
        refine hpu.mono ?_
        rintro e w6 ⟨A7, c7, ps, rfl, hP, hps, hO6⟩
        obtain rfl : mj = ps.length := hP.1.len
        have hI6 := HI.out.below hO6
        have hcm := commit_two v d L m6 n (1000 * k + 4) wr.heap.size A7 ps.length c7 ps s _ w6 hI6.V hI6.D (HW.out.1.below hI6.O) hP hI6.G (by rw [hI6.sn, hI6.hB]) (by omega) hI6.F (by omega)
        have H6 := Lib.hid (And.intro hI6 (And.intro hP (show w.heap.size ≤ wr.heap.size from HI.out.O.size)))
        clear hP hps hO6 hI6 hpu
        cases hmm : mayP m6 ps with
        | false =>
          go_wp2_with fail
          refine hcm.mono ?_
          rintro e w7 (⟨_, rfl, hO7⟩ | ⟨hx, _⟩ | ⟨hx, _⟩)
          rotate_left
          · rw [hmm] at hx; cases hx
          · rw [hmm] at hx; cases hx
          have H7 := Lib.hid (H6.out.1.below hO7)
          clear hcm hO7 hmm
          go_wp2_with fail
          go_roundw
          case measure => simp [intOf]; omega
          exact ⟨k + 1, n, s, A6, m6, c6, rs, by omega, by omega, rfl, rfl, by simp, H7.out.more (by omega)⟩
        | true =>
          by_cases hp0 : 0 < ps.length
          · have hp0i : (0 : Int) < ps.length := by omega
            have hp0d : decide ((0 : Int) < ps.length) = true := decide_eq_true hp0i
            go_wp2_with fail
            refine hcm.mono ?_
            rintro e w7 (⟨hx, _⟩ | ⟨_, hx, _⟩ | ⟨_, _, rfl, hD7, hV7, hT7⟩)
            · rw [hmm] at hx; cases hx
            · subst hx; simp at hp0
            obtain ⟨s', hs', hG', hF', hn', hu', hd'⟩ := turn_live (m2 := after (rs.map (·.l)) (ps.map toPut)) H6.out.1.G H6.out.1.F H6.out.1.fu H6.out.1.de (by rw [after_len, List.length_map, H6.out.1.len, H6.out.1.sn, H6.out.1.hB])
            rw [hs'] at hD7 hV7 ⊢
            simp only [if_true, Bool.not_true] at hD7 hV7 ⊢
            obtain ⟨hO7, hM7, hP7⟩ := H6.out.1.turned hT7
            have haf := H6.out.1.after_call (w' := w7) hM7 hO7 H6.out.2.2 (hP7 _ _ _ H6.out.2.1) hmm
            have H7 := Lib.hid (And.intro hD7 (And.intro hV7 (And.intro hG' (And.intro hF' (And.intro hn' (And.intro hu' (And.intro hd' hT7)))))))
            clear hcm hD7 hV7 hG' hF' hn' hu' hd' hT7 hO7 hM7 hP7 hs' hmm
            go_wp2_with fail
            refine haf.mono ?_
            rintro e w8 ⟨A8, m8, c8, rs8, rfl, hM8, hrs8, hO8⟩
            have H8 := Lib.hid (H6.out.1.done H7.out.1 H7.out.2.1 (by rw [hrs8]; exact H7.out.2.2.1) H7.out.2.2.2.1 H7.out.2.2.2.2.1 H7.out.2.2.2.2.2.1 H7.out.2.2.2.2.2.2.1 H7.out.2.2.2.2.2.2.2 hM8 hO8)
            clear haf hM8 hrs8 hO8
            go_wp2_with fail
            go_roundw
            case measure => simp [intOf]; omega
            exact ⟨k + 1, n + 1, s', A8, m8, c8, rs8, by omega, by omega, rfl, by simp, by simp, H8.out⟩
          · have hp0i : ¬ (0 : Int) < ps.length := by omega
            have hp0d : decide ((0 : Int) < ps.length) = false := decide_eq_false hp0i
            go_wp2_with fail
            refine hcm.mono ?_
            rintro e w7 (⟨hx, _⟩ | ⟨_, hx, rfl, hO7⟩ | ⟨_, hx, _⟩)
            · rw [hmm] at hx; cases hx
            rotate_left
            · exact absurd hx hp0
            have hI7 := H6.out.1.below hO7
            have haf := hI7.after_call (w' := w7) hI7.M hI7.O H6.out.2.2 (H6.out.2.1.below hO7) hmm
            have H7 := Lib.hid (And.intro hI7 hx)
            clear hcm hI7 hO7 hmm hx
            go_wp2_with fail
            refine haf.mono ?_
            rintro e w8 ⟨A8, m8, c8, rs8, rfl, hM8, hrs8, hO8⟩
            have hI8 := H7.out.1.below hO8
            have hrs' : rs8.map (·.l) = rs.map (·.l) := by rw [hrs8, H7.out.2]; rfl
            have H8 := Lib.hid (show MdI w w8 S d L v m6 n k s A8 m8 c8 rs8 from ⟨hI8.D, hI8.V, by rw [hrs']; exact hI8.G, hI8.F, hM8, hI8.O, hI8.ld, hI8.lL, hI8.lv, hI8.sn, hI8.hB, hI8.fu, hI8.de, hI8.nk⟩)
            clear haf hM8 hrs8 hO8 hI8 hrs'
            go_wp2_with fail
            go_roundw
            case measure => simp [intOf]; omega
            exact ⟨k + 1, n, s, A8, m8, c8, rs8, by omega, by omega, rfl, rfl, by simp, H8.out.more (by omega)⟩
      · obtain rfl : k = 6 := by omega
        have hl6d : decide (((6 : Nat) : Int) < 6) = false := by decide
        have HI := Lib.hid hI
        clear hI
        go_wp2_with fail
        refine bodyPost_ret (results_tmp4 rfl _ _ _) rfl ?_
        first | exact ⟨d, L, v, n, s, A6, m6, c6, rs, rfl, HI.out⟩ | exact ⟨d, L, v, n, s, A6, m6, c6, rfl, rs, HI.out⟩
    · obtain rfl : k = N := by omega
      have hlti : ¬ (k : Int) < k := by omega
      have hltd : decide ((k : Int) < (k : Int)) = false := decide_eq_false hlti
      have HI := Lib.hid (hI.more hk6)
      clear hI
      go_wp2_with fail
      refine bodyPost_ret (results_tmp4 rfl _ _ _) rfl ?_
      first | exact ⟨d, L, v, n, s, A6, m6, c6, rs, rfl, HI.out⟩ | exact ⟨d, L, v, n, s, A6, m6, c6, rfl, rs, HI.out⟩
end Go.Proofs.YtomngfihaohgdaaDoor
