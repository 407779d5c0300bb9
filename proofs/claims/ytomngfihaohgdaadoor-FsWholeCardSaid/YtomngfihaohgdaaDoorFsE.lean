/-
  blockfs: size, after.
  blockfs: after.
  blockfs: a list of puts; the law FsWhole, walked.
  blockfs: appends to rows of any length.
-/
import Derived.Test.YtomngfihaohgdaaDoorFsD
namespace Go.Proofs.YtomngfihaohgdaaDoor
set_option maxRecDepth 100000
open Go.RowKit

theorem rows_all : ∀ l : List RowV, Tryd.eM.all l = l.map fun r => Value.slice r.A r.n r.c
  | [] => rfl
  | y :: l => by
    have ih := rows_all l
    unfold ETy.all at ih ⊢
    rw [List.flatMap_cons, List.map_cons, ih]; rfl
/-- A row of a model is put in another's place. -/
theorem mod_set {w : World} {base : Nat} {A : Option Addr} {n c : Nat} {rs : List RowV} (h : OwnE Tryd.eM w base (.slice A n c) rs) (j : Nat) (hj : j < rs.length) (r : RowV) :
    ∃ g, A = some ⟨g, 0, none⟩ ∧ base ≤ g ∧ g < w.heap.size ∧ w.frozen? ⟨g, j, none⟩ = false ∧ (∃ cs, Blk w g 40 cs ∧ j < cs.size) ∧ OwnE Tryd.eM (w.setCell ⟨g, j, none⟩ (.slice r.A r.n r.c)) base (.slice A n c) (rs.set j r) := by
  have hl := h.len
  have h0 := h
  obtain ⟨h1, h2⟩ := h
  rcases h2 with ⟨e, h3⟩ | ⟨g, cap, cur, e, hg, hh, hnc, hmx, hsz, htk⟩
  · omega
  · injection e with e1 e2 e3
    subst e1
    subst e3
    have hb : Blk w g 40 cur := hh
    have hs1 : Tryd.eM.sz = 1 := rfl
    rw [hs1, Nat.mul_one] at hsz htk
    have hcs : j < cur.size := by omega
    refine ⟨g, rfl, hg, hb.lt, hb.frozen j, ⟨cur, hb, hcs⟩, ?_⟩
    refine ⟨by rw [rows_all, List.length_map, List.length_set, hs1, Nat.mul_one], .inr ⟨g, c, cur.setIfInBounds j (.slice r.A r.n r.c), by rw [List.length_set]; exact congrArg (fun x => Value.slice _ x _) hl, hg, hb.set_ j _, by rw [List.length_set]; omega, hmx, by rw [Array.size_setIfInBounds, hs1, Nat.mul_one]; exact hsz, ?_⟩⟩
    rw [hs1, Nat.mul_one, List.length_set, rows_all, Array.toList_setIfInBounds, List.take_set, List.map_set, htk, rows_all]
def rowsAfter (rs : List RowV) (ps : List PutV) : List RowV := ps.foldl (fun rs p => rs.set p.blk.toNat ⟨p.A, p.n, p.c, p.l⟩) rs
theorem rowsAfter_take {rs : List RowV} {ps : List PutV} {k : Nat} {p : PutV} (hk : ps[k]? = some p) : rowsAfter rs (ps.take (k + 1)) = (rowsAfter rs (ps.take k)).set p.blk.toNat ⟨p.A, p.n, p.c, p.l⟩ := by
  unfold rowsAfter
  rw [List.take_add_one, hk, List.foldl_append]
  rfl
theorem rowsAfter_len (ps : List PutV) : ∀ rs : List RowV, (rowsAfter rs ps).length = rs.length := by
  unfold rowsAfter
  induction ps with
  | nil => intro rs; rfl
  | cons p ps ih => intro rs; rw [List.foldl_cons, ih, List.length_set]
theorem rowsAfter_map (ps : List PutV) : ∀ rs : List RowV, (rowsAfter rs ps).map (·.l) = after (rs.map (·.l)) (ps.map toPut) := by
  unfold rowsAfter after
  induction ps with
  | nil => intro rs; rfl
  | cons p ps ih => intro rs; rw [List.foldl_cons, ih, List.map_cons, List.foldl_cons, List.map_set]; rfl
theorem rowsAfter_mem (ps : List PutV) : ∀ (rs : List RowV) (r : RowV), r ∈ rowsAfter rs ps → r ∈ rs ∨ ∃ p ∈ ps, r = ⟨p.A, p.n, p.c, p.l⟩ := by
  unfold rowsAfter
  induction ps with
  | nil => intro rs r h; exact .inl h
  | cons p ps ih =>
    intro rs r h
    rw [List.foldl_cons] at h
    rcases ih _ r h with h | ⟨q, h1, h2⟩
    · rcases List.mem_or_eq_of_mem_set h with h | h
      · exact .inl h
      · exact .inr ⟨p, by simp, h⟩
    · exact .inr ⟨q, by simp [h1], h2⟩
/-- How many sectors. -/
def sizeN (n : Int) : Nat := 16 + ((if n < 0 then -(n + 1) else n).toNat % 45)
theorem sizeN_in (n : Int) : 16 ≤ sizeN n ∧ sizeN n ≤ 60 := by unfold sizeN; omega
theorem fsize_any (n : Int) (h0 : -9223372036854775808 ≤ n) (h1 : n ≤ 9223372036854775807) (w : World) : Calls Tryd.prog 11 #[.int .i64 n] w fun e w' => e = .returned (.int .i64 (sizeN n : Int)) ∧ w = w' := by
  unfold sizeN
  by_cases h : n < 0
  · rw [if_pos h]
    have hd : decide (n < 0) = true := decide_eq_true h
    obtain ⟨k, hk⟩ : ∃ k : Nat, -(n + 1) = k := ⟨(-(n + 1)).toNat, by omega⟩
    have g1 : IntKind.i64.wrap (n + 1) = n + 1 := IntWalk.i64_in _ (by omega)
    have g2 : IntKind.i64.wrap (-(n + 1)) = -(n + 1) := IntWalk.i64_in _ (by omega)
    rw [hk] at g2
    have hm : (k : Int).tmod 45 = ((k % 45 : Nat) : Int) := by rw [Int.tmod_eq_emod_of_nonneg (by omega)]; omega
    rw [hk, Int.toNat_natCast]
    obtain ⟨r, hr⟩ : ∃ r, k % 45 = r := ⟨_, rfl⟩
    have hrl : r < 45 := by omega
    rw [hr] at hm ⊢
    have hr2 : (r : Int) < 45 := by omega
    go_enter Tryd.func11, Tryd.ntmps11
    go_wp2_with fail
    try rw [hk]
    go_wp2_with fail
    go_ret
    exact ⟨by first | rfl | (congr 2; omega), rfl⟩
  · rw [if_neg h]
    have hd : decide (n < 0) = false := decide_eq_false h
    obtain ⟨k, rfl⟩ : ∃ k : Nat, n = k := ⟨n.toNat, by omega⟩
    have hm : (k : Int).tmod 45 = ((k % 45 : Nat) : Int) := by rw [Int.tmod_eq_emod_of_nonneg (by omega)]; omega
    rw [Int.toNat_natCast]
    obtain ⟨r, hr⟩ : ∃ r, k % 45 = r := ⟨_, rfl⟩
    have hrl : r < 45 := by omega
    rw [hr] at hm ⊢
    have hr2 : (r : Int) < 45 := by omega
    go_enter Tryd.func11, Tryd.ntmps11
    go_wp2_with fail
    go_ret
    exact ⟨by first | rfl | (congr 2; omega), rfl⟩
end Go.Proofs.YtomngfihaohgdaaDoor
namespace Go.Proofs.YtomngfihaohgdaaDoor
set_option maxRecDepth 100000
open Go.RowKit

theorem OwnE.nilc {α : Type} {E : ETy α} {w : World} {base : Nat} {A : Option Addr} {n c : Nat} {l : List α} (h : OwnE E w base (.slice A n c) l) : A = none → c = 0 := by
  intro ha
  obtain ⟨h1, h2⟩ := h
  rcases h2 with ⟨e, _⟩ | ⟨g, cap, cur, e, _⟩
  · injection e
  · injection e with e1 e2 e3
    rw [ha] at e1; cases e1
set_option maxHeartbeats 1000000 in
theorem after_any (A B : Option Addr) (m c cp base : Nat) (rs : List RowV) (ps : List PutV) (w : World) (hM : ModAt w base (.slice A m c) rs) (hb : base ≤ w.heap.size) (hP : ps = [] ∨ ∃ P, B = some ⟨P, 0, none⟩ ∧ PutsAt w P ps)
    (hO : ∀ p ∈ ps, Own w base (.slice p.A p.n p.c) p.l) (hp : ∀ p ∈ ps, 0 ≤ p.blk ∧ p.blk < rs.length) (hl : rs.length ≤ 1000) (hn : ps.length ≤ 1000) :
    Calls Tryd.prog 23 #[.slice A m c, .slice B ps.length cp] w fun e w' => ∃ A' m' c', e = .returned (.slice A' m' c') ∧ ModAt w' base (.slice A' m' c') (rowsAfter rs ps) ∧ Old w w' := by
  obtain ⟨N, hN⟩ : ∃ N, ps.length = N := ⟨_, rfl⟩
  rw [hN] at hn ⊢
  have hnc := hM.1.nilc
  have H := Lib.hid (And.intro hM (And.intro hb (And.intro hP (And.intro hO (And.intro hp (And.intro hl (And.intro hN hnc)))))))
  clear hM hb hP hO hp hl hN hnc
  go_enter Tryd.func23, Tryd.ntmps23
  go_wp2_with (at_builtin; go_loud (refine wp_appE Tryd.eM (.const (.slice none 0 0)) (.tmp 7) w.heap.size (.slice none 0 0) [] (OwnE.nil _ _) (Nat.le_refl _) A m c rs H.out.1.1.rd H.out.2.2.2.2.2.2.2 (by have := H.out.2.2.2.2.2.1; simp; omega) rfl rfl rfl rfl ?_); intro A5 n5 c5 w5 hG; have H5 := Lib.hid hG; clear hG)
  go_loopw [6] (fun iv wr => ∃ k : Nat, k ≤ N ∧ iv = .int .i64 (k : Int) ∧ OwnE Tryd.eM wr w.heap.size (.slice A5 n5 c5) (rowsAfter rs (ps.take k)) ∧ Old w wr) (fun iv _ => N - (intOf iv).toNat)
  case atStart => exact ⟨0, by omega, rfl, by have := H5.out.own; rw [List.nil_append] at this; exact this, H5.out.below⟩
  case round =>
    obtain ⟨k, hk, rfl, hE, hO⟩ := hrel
    by_cases hlt : k < N
    · have hlti : (k : Int) < N := by omega
      have hltd : decide ((k : Int) < (N : Int)) = true := decide_eq_true hlti
      obtain ⟨p, hpk⟩ : ∃ p, ps[k]? = some p := ⟨_, List.getElem?_eq_getElem (by rw [H.out.2.2.2.2.2.2.1]; exact hlt)⟩
      have hpb := H.out.2.2.2.2.1 p (List.mem_of_getElem? hpk)
      have hst := rowsAfter_take (rs := rs) hpk
      rcases H.out.2.2.1 with h0 | ⟨P, hB, hP⟩
      · rw [h0] at hpk; simp at hpk
      subst hB
      obtain ⟨q0, q1, _⟩ := (hP.below hO).at_ k p hpk
      have hPl := hP.lt
      obtain ⟨blk, A2, n2, c2, l2⟩ := p
      simp only at hpb hst q0 q1
      obtain ⟨j, rfl⟩ := Int.eq_ofNat_of_zero_le hpb.1
      rw [Int.toNat_natCast] at hst
      have hjl : j < (rowsAfter rs (ps.take k)).length := by rw [rowsAfter_len]; omega
      have hn5 : n5 = rs.length := by have := hE.len; rw [rowsAfter_len] at this; exact this
      have hset := fun (W : World) (hW : Old wr W) => mod_set (hE.below hW) j hjl ⟨A2, n2, c2, l2⟩
      obtain ⟨g, hA5, hgb, hgl, _, ⟨cs, hbk, hjc⟩, _⟩ := hset wr (Old.refl _)
      subst hA5
      have hPg : P ∉ [g] := by simp; omega
      have hjn : (j : Int) < n5 := by rw [hn5]; exact hpb.2
      have HX := Lib.hid (And.intro q0 (And.intro q1 (And.intro hset (And.intro hbk (And.intro hjc (And.intro hst (And.intro hO (And.intro hgb hPg))))))))
      have HE := Lib.hid hE
      clear hpk hpb hst hP q0 q1 hPl hjl hn5 hset hgb hgl hbk hjc hPg hE hO
      go_wp2_with fail
      refine region_turn [g] (by kernel_rfl) (fun wd hOd hHeld hSz => ?_)
      have HSz := Lib.hid hSz
      clear hSz
      refine takeL (i := 0) (v := ?_) rfl (by kernel_rfl) (by kernel_rfl) (by kernel_rfl) (fun _ _ _ h => h) (Or.inl ⟨by rfl, ?_⟩) hHeld ?_
      rotate_left
      focus (intro wq hSw; clear hSw; go_simp; try with_reducible rfl)
      try simp only [Act.put, List.setIfInBounds_toArray, List.set_cons_zero, List.set_cons_succ]
      refine takeL (i := 1) (v := ?_) rfl (by kernel_rfl) (by kernel_rfl) (by kernel_rfl) (fun _ _ _ h => h) (Or.inl ⟨by rfl, ?_⟩) hHeld ?_
      rotate_left
      focus (intro wq hSw; clear hSw; go_simp; try with_reducible rfl)
      try simp only [Act.put, List.setIfInBounds_toArray, List.set_cons_zero, List.set_cons_succ]
      refine takeL (i := 2) (v := ?_) rfl (by kernel_rfl) (by kernel_rfl) (by kernel_rfl) (fun _ _ _ h => h) (Or.inl ⟨by rfl, ?_⟩) hHeld ?_
      rotate_left
      focus (intro wq hSw; clear hSw; go_simp; try with_reducible rfl)
      try simp only [Act.put, List.setIfInBounds_toArray, List.set_cons_zero, List.set_cons_succ]
      refine takeL (i := 3) (v := ?_) rfl (by kernel_rfl) (by kernel_rfl) (by kernel_rfl) (fun _ _ _ h => h) (Or.inl ⟨by rfl, ?_⟩) hHeld ?_
      rotate_left
      focus (intro wq hSw; clear hSw; go_simp; try with_reducible rfl)
      try simp only [Act.put, List.setIfInBounds_toArray, List.set_cons_zero, List.set_cons_succ]
      refine takeL (i := 4) (v := ?_) rfl (by kernel_rfl) (by kernel_rfl) (by kernel_rfl) (fun _ _ _ h => h) (Or.inl ⟨by rfl, ?_⟩) hHeld ?_
      rotate_left
      focus (intro wq hSw; clear hSw; go_simp; try with_reducible rfl)
      try simp only [Act.put, List.setIfInBounds_toArray, List.set_cons_zero, List.set_cons_succ]
      refine takeL (i := 5) (v := ?_) rfl (by kernel_rfl) (by kernel_rfl) (by kernel_rfl) (fun _ _ _ h => h) (Or.inl ⟨by rfl, ?_⟩) hHeld ?_
      rotate_left
      focus (intro wq hSw; have z0 := cell_turn HX.out.1 hSw HX.out.2.2.2.2.2.2.2.2; clear hSw; go_simp; try with_reducible rfl)
      try simp only [Act.put, List.setIfInBounds_toArray, List.set_cons_zero, List.set_cons_succ]
      refine takeL (i := 6) (v := ?_) rfl (by kernel_rfl) (by kernel_rfl) (by kernel_rfl) (fun _ _ _ h => h) (Or.inl ⟨by rfl, ?_⟩) hHeld ?_
      rotate_left
      focus (intro wq hSw; clear hSw; go_simp; try with_reducible rfl)
      try simp only [Act.put, List.setIfInBounds_toArray, List.set_cons_zero, List.set_cons_succ]
      refine takeL (i := 7) (v := ?_) rfl (by kernel_rfl) (by kernel_rfl) (by kernel_rfl) (fun _ _ _ h => h) (Or.inl ⟨by rfl, ?_⟩) hHeld ?_
      rotate_left
      focus (intro wq hSw; clear hSw; go_simp; try with_reducible rfl)
      try simp only [Act.put, List.setIfInBounds_toArray, List.set_cons_zero, List.set_cons_succ]
      refine takeL (i := 8) (v := ?_) rfl (by kernel_rfl) (by kernel_rfl) (by kernel_rfl) (fun _ _ _ h => h) (Or.inl ⟨by rfl, ?_⟩) hHeld ?_
      rotate_left
      focus (intro wq hSw; clear hSw; go_simp; try with_reducible rfl)
      try simp only [Act.put, List.setIfInBounds_toArray, List.set_cons_zero, List.set_cons_succ]
      refine takeL (i := 9) (v := ?_) rfl (by kernel_rfl) (by kernel_rfl) (by kernel_rfl) (fun _ _ _ h => h) (Or.inl ⟨by rfl, ?_⟩) hHeld ?_
      rotate_left
      focus (intro wq hSw; clear hSw; go_simp; try with_reducible rfl)
      try simp only [Act.put, List.setIfInBounds_toArray, List.set_cons_zero, List.set_cons_succ]
      refine takeL (i := 10) (v := ?_) rfl (by kernel_rfl) (by kernel_rfl) (by kernel_rfl) (fun _ _ _ h => h) (Or.inl ⟨by rfl, ?_⟩) hHeld ?_
      rotate_left
      focus (intro wq hSw; have z1 := cell_turn HX.out.2.1 hSw HX.out.2.2.2.2.2.2.2.2; clear hSw; go_simp; try with_reducible rfl)
      try simp only [Act.put, List.setIfInBounds_toArray, List.set_cons_zero, List.set_cons_succ]
      refine takeL (i := 11) (v := ?_) rfl (by kernel_rfl) (by kernel_rfl) (by kernel_rfl) (fun _ _ _ h => h) (Or.inl ⟨by rfl, ?_⟩) hHeld ?_
      rotate_left
      focus (intro wq hSw; clear hSw; go_simp; try with_reducible rfl)
      try simp only [Act.put, List.setIfInBounds_toArray, List.set_cons_zero, List.set_cons_succ]
      have hbw := Blk.below HX.out.2.2.2.1 hOd
      have f0 := Blk.frozen hbw j
      have y0 := Blk.cell hbw j
      rw [Array.getElem?_eq_getElem HX.out.2.2.2.2.1] at y0
      clear hbw
      refine wpAnyH_ready (rs := [12]) (by kernel_rfl) (by simp) ?_
      refine consL rfl (fun K hK => ?_) AllReadyH.nil
      go_simp
      refine hK.out _ _ (hHeld.setCell (.inl (by simp)) _) (fun hHeld => ?_)
      clear hK K
      try simp only [Act.put, List.setIfInBounds_toArray, List.set_cons_zero, List.set_cons_succ]
      refine wpAnyH_done (by kernel_rfl) ?_ _
      refine NoPanic.normal ?_
      try simp only [Exit.then]
      go_wp2_with fail
      go_roundw
      case measure => simp [intOf]; omega
      obtain ⟨g', hg', _, _, _, _, hown⟩ := HX.out.2.2.1 wd hOd
      injection hg' with hg'
      injection hg' with hg'
      subst hg'
      exact ⟨k + 1, by omega, by simp, by rw [HX.out.2.2.2.2.2.1]; exact hown, below_turn HX.out.2.2.2.2.2.2.1 hHeld (by have := HX.out.2.2.2.2.2.2.2.1; simp; omega) HX.out.2.2.2.2.2.2.1.size⟩
    · obtain rfl : k = N := by omega
      have hlti : ¬ (k : Int) < k := by omega
      have hltd : decide ((k : Int) < (k : Int)) = false := decide_eq_false hlti
      rw [List.take_of_length_le (by rw [H.out.2.2.2.2.2.2.1]; omega)] at hE
      have HE := Lib.hid (And.intro hE hO)
      clear hE hO
      go_wp2_with fail
      go_ret
      refine ⟨_, _, _, rfl, ⟨HE.out.1.mono H.out.2.1, fun r hr => ?_⟩, HE.out.2⟩
      rcases rowsAfter_mem ps rs r hr with h | ⟨p, hp, rfl⟩
      · exact (H.out.1.2 r h).below HE.out.2
      · exact (H.out.2.2.2.1 p hp).below HE.out.2
end Go.Proofs.YtomngfihaohgdaaDoor
namespace Go.Proofs.YtomngfihaohgdaaDoor
set_option maxRecDepth 100000
open Go.RowKit

def Tryd.eP : ETy PutV where
  t := 42
  ts := 46
  sz := 2
  bytes := 32
  z := .agg #[.int .i64 0, .slice none 0 0]
  cells := fun p => [.int .i64 p.blk, .slice p.A p.n p.c]
  len := fun _ => rfl
  one := fun x u hu => by simp at hu; rcases hu with rfl | rfl <;> rfl
  pos := by decide
  zsz := rfl
  small := by decide
  und := Tryd.underlying46
  info := by kernel_rfl
def PutsOwn (w : World) (base : Nat) (v : Value) (ps : List PutV) : Prop := OwnE Tryd.eP w base v ps ∧ ∀ p ∈ ps, Own w base (.slice p.A p.n p.c) p.l
theorem PutsOwn.below {w w' : World} {base : Nat} {v : Value} {ps : List PutV} (h : PutsOwn w base v ps) (hb : Below w.heap.size w w') : PutsOwn w' base v ps := ⟨h.1.below hb, fun r hr => (h.2 r hr).below hb⟩
theorem PutsOwn.turn {w w' : World} {base : Nat} {v : Value} {rs : List PutV} {S : List Nat} (h : PutsOwn w base v rs) (ht : Turn S w w') (hS : ∀ g ∈ S, ∃ t cs, Blk w g t cs ∧ t ≠ 5 ∧ t ≠ 42) : PutsOwn w' base v rs := by
  refine ⟨h.1.turn ht fun g hg hm => ?_, fun r hr => (h.2 r hr).turn ht fun g hg hm => ?_⟩
  · obtain ⟨t, cs, hb, _, h2⟩ := hS g hm
    exact h.1.ne hb h2 hg
  · obtain ⟨t, cs, hb, h1, _⟩ := hS g hm
    exact (h.2 r hr).ne hb h1 hg
theorem PutsOwn.at_ {w : World} {base : Nat} {A : Option Addr} {n c : Nat} {ps : List PutV} (h : PutsOwn w base (.slice A n c) ps) (h0 : 0 < ps.length) : ∃ P, A = some ⟨P, 0, none⟩ ∧ PutsAt w P ps ∧ base ≤ P := by
  have hl := h.1.len
  have hE := h.1
  obtain ⟨h1, h2⟩ := h.1
  rcases h2 with ⟨e, _⟩ | ⟨g, cap, cur, e, hg, hh, _⟩
  · injection e; omega
  · injection e with e1 e2 e3
    subst e1
    have hb : Blk w g 42 cur := hh
    refine ⟨g, rfl, ⟨fun k p hk => ?_, hb.lt⟩, hg⟩
    obtain ⟨g', off, hA, hgl, hc⟩ := hE.rd.at_ hk
    injection hA with hA
    injection hA with hA1 hA2
    subst hA1 hA2
    have c0 := hc 0 (by decide)
    have c1 := hc 1 (by decide)
    have hs : Tryd.eP.sz = 2 := rfl
    rw [hs, Nat.zero_add] at c0 c1
    exact ⟨c0, c1, (h.2 p (List.mem_of_getElem? hk)).rd⟩
theorem full256_len (l : List UInt8) : (full l 256).length = 256 := by
  unfold full
  rw [if_neg (by omega)]
  split
  · exact zs_len 256
  · exact fullTo_len _ _ _
theorem isM_good {s : Dsk} {B c : Nat} {m : List (List UInt8)} (hB : (s.n - 8) / 2 = B) (hm : m.length = B) (hg : Good headB s c m) : isM s c m = true := by
  refine decide_eq_true fun i hi => ?_
  obtain ⟨b, hb⟩ : ∃ b, m[i]? = some b := ⟨_, List.getElem?_eq_getElem hi⟩
  have := (hg.side i b hb).1
  rw [hB, ← hm] at this
  rw [hb, this]; rfl
end Go.Proofs.YtomngfihaohgdaaDoor
namespace Go.Proofs.YtomngfihaohgdaaDoor
set_option maxRecDepth 100000
open Go.RowKit

section
variable {α : Type} (E : ETy α) {ops : Array Oper} {o : Oper} {a : Act} {w : World} {K : Act → World → Prop} {Q : Exit → Act → World → Prop}
/-- append of what is read at a slice. -/
theorem op_appG (s x : Operand) (base : Nat) (v : Value) (l : List α) (hown : OwnE E w base v l) (hbase : base ≤ w.heap.size)
    (A : Option Addr) (m c : Nat) (l2 : List α) (hrd : RdC E w A m l2) (hnil : A = none → c = 0) (hbp : 0 < E.bytes) (hlen : (l.length + l2.length) * E.bytes ≤ 140737488355328)
    (ho : o.op = .call { callee := .builtin .append, args := #[s, x], argTypes := #[E.ts, E.ts] }) (hs : a.eval s = v) (hx : a.eval x = .slice A m c)
    (h : ∀ (A' : Option Addr) (n' c' : Nat) (w' : World), GrewE E base w w' v A' n' c' (l ++ l2) → K (a.put o.dst (.slice A' n' c')) w') : Oper.wp Tryd.prog o a w K Q := by
  obtain ⟨i0, hi, hz0, hz1, hz2⟩ := info_parts E.info
  obtain ⟨hm, hsrc⟩ := hrd
  have hb := E.small
  have key : (∃ v' w', (Builtin.append_ #[E.ts, E.ts] o.type #[v, .slice A m c]).run Tryd.prog w = .ok v' w' ∧ w'.ownsRow base E.t E.sz v' (l.length + l2.length) (E.all l ++ E.all l2) ∧ w.grownBy w' v.ownBlock ∧ (v'.ownBlock = v.ownBlock ∨ v'.ownBlock = some w.heap.size)) := by
    have hbytes : (l.length + l2.length) * E.bytes ≤ 140737488355328 := hlen
    have hsum : l.length + l2.length ≤ 140737488355328 := Nat.le_trans (Nat.le_mul_of_pos_right _ hbp) hlen
    cases A with
    | none =>
      have hc := hnil rfl
      have hm0 : m = 0 := by
        rcases hsrc with h | ⟨g, off, h, _⟩
        · exact h
        · cases h
      subst hc hm0
      have hl2 : l2 = [] := List.eq_nil_of_length_eq_zero hm
      subst hl2
      exact ⟨v, w, run_append_nilE E w base o.type v l hown, by rw [E.all_nil, List.append_nil]; exact hown, ⟨rfl, rfl, rfl, Nat.le_refl _, fun _ _ _ => rfl⟩, .inl rfl⟩
    | some ad =>
      obtain ⟨v', w', hr, ho', hg, hn, hbl⟩ := run_append_own_at (P := Tryd.prog) w base E.ts o.type E.t i0 _ E.sz E.bytes E.und hi hz0 hz1 hz2 E.zsz E.pos v l.length (E.all l) hown ad m c (E.all l2) (by rw [E.all_len, hm])
        (fun j u hu => by
          rcases hsrc with h0 | ⟨g, off, h0, _, h4⟩
          · have hl2 : l2 = [] := List.eq_nil_of_length_eq_zero (hm.trans h0)
            subst hl2
            simp [ETy.all] at hu
          · injection h0 with h0
            subst h0
            rw [Addr.add_mid]
            exact h4 j u hu) (E.all_one' l2) (by unfold maxLen; omega) (by rw [← hm]; exact hbytes) hbase
      exact ⟨v', w', hr, by rw [hm]; exact ho', hg, hbl⟩
  obtain ⟨v', w', hr, ho', hg, hbl⟩ := key
  unfold Oper.wp
  simp only [execOp, ho, resolve, invoke, builtin, Sem.run_bind, Sem.run_pure, Result.andThen_ok, List.map_toArray, List.map_cons, List.map_nil, hs, hx, hr]
  have hfin : ∃ A' n' c', v' = .slice A' n' c' := by
    obtain ⟨_, h | ⟨g, cap, cur, e, _⟩⟩ := ho'
    · exact ⟨_, _, _, h.1⟩
    · exact ⟨_, _, _, e⟩
  obtain ⟨A', n', c', rfl⟩ := hfin
  refine h A' n' c' w' ⟨?_, (Below.refl base w).grown hg hbase (fun k hk => (hown.lt hk).1), hg, hbl⟩
  unfold OwnE
  rw [E.all_append, List.length_append]
  exact ho'
theorem wp_appG {rest : List Oper} (s x : Operand) (base : Nat) (v : Value) (l : List α) (hown : OwnE E w base v l) (hbase : base ≤ w.heap.size)
    (A : Option Addr) (m c : Nat) (l2 : List α) (hrd : RdC E w A m l2) (hnil : A = none → c = 0) (hbp : 0 < E.bytes) (hlen : (l.length + l2.length) * E.bytes ≤ 140737488355328) (hgd : o.guard = none)
    (ho : o.op = .call { callee := .builtin .append, args := #[s, x], argTypes := #[E.ts, E.ts] }) (hs : a.eval s = v) (hx : a.eval x = .slice A m c)
    (h : ∀ (A' : Option Addr) (n' c' : Nat) (w' : World), GrewE E base w w' v A' n' c' (l ++ l2) → wpList Tryd.prog ops Q rest (a.put o.dst (.slice A' n' c')) w') : wpList Tryd.prog ops Q (o :: rest) a w :=
  wpList_plain hgd fun K hK => op_appG E s x base v l hown hbase A m c l2 hrd hnil hbp hlen ho hs hx (fun A' n' c' w' hg => hK _ _ (h A' n' c' w' hg))
end
theorem op_appB {o : Oper} {a : Act} {w : World} {K : Act → World → Prop} {Q : Exit → Act → World → Prop} (s x : Operand)
    (ho : o.op = .call { callee := .builtin .append, args := #[s, x], argTypes := #[40, 40] })
    (base : Nat) (v : Value) (l : List UInt8) (hs : a.eval s = v) (hown : Own w base v l)
    (A : Option Addr) (m c : Nat) (l2 : List UInt8) (hx : a.eval x = .slice A m c) (hrd : Rd w A m c l2) (hlen : l.length + l2.length ≤ 140737488355328) (hbase : base ≤ w.heap.size)
    (h : ∀ v' w', Own w' base v' (l ++ l2) → w.grownBy w' v.ownBlock → (v' = .slice none 0 0 ↔ v = .slice none 0 0 ∧ l2 = []) → (v'.ownBlock = v.ownBlock ∨ v'.ownBlock = some w.heap.size) → K (a.put o.dst v') w') :
    Oper.wp Tryd.prog o a w K Q := by
  obtain ⟨i0, hi, hz0, hz1, hz2⟩ := info_parts Tryd.infoU8
  obtain ⟨h1, h2, h3, ⟨rfl, hc⟩ | ⟨b, off, rfl, h4⟩⟩ := hrd
  · obtain rfl : m = 0 := by omega
    obtain rfl : l2 = [] := List.length_eq_zero_iff.1 h1.symm
    subst hc
    have hrun := run_append_owned_none (P := Tryd.prog) (w := w) base 40 o.type 5 i0 1 Tryd.underlying40 hi v l.length (l.map B) hown
    unfold Oper.wp
    simp only [execOp, ho, resolve, invoke, builtin, Sem.run_bind, Sem.run_pure, Result.andThen_ok, List.map_toArray, List.map_cons, List.map_nil, hs, hx, hrun]
    exact h v w (by rw [List.append_nil]; exact hown) ⟨rfl, rfl, rfl, Nat.le_refl _, fun _ _ _ => rfl⟩ (by simp) (.inl rfl)
  · obtain ⟨v', w', hr, ho', hg, hn, hb⟩ := run_append_own_at (P := Tryd.prog) w base 40 o.type 5 i0 (.int .u8 0) 1 1 Tryd.underlying40 hi hz0 hz1 hz2 rfl (by decide) v l.length (l.map B) hown ⟨b, off, none⟩ m c (l2.map B) (by simp [h1])
      h4.adds (map_one _) (by unfold maxLen; omega) (by omega) hbase
    unfold Oper.wp
    simp only [execOp, ho, resolve, invoke, builtin, Sem.run_bind, Sem.run_pure, Result.andThen_ok, List.map_toArray, List.map_cons, List.map_nil, hs, hx, hr]
    refine h v' w' ?_ hg ?_ hb
    · unfold Own
      rw [List.length_append, ← h1, List.map_append]
      exact ho'
    · rw [hn, ← List.length_eq_zero_iff, ← h1]
/-- The same in a plain region. -/
theorem wp_appB {ops : Array Oper} {rest : List Oper} {o : Oper} {a : Act} {w : World} {Q : Exit → Act → World → Prop} (hgd : o.guard = none) (s x : Operand)
    (ho : o.op = .call { callee := .builtin .append, args := #[s, x], argTypes := #[40, 40] })
    (base : Nat) (v : Value) (l : List UInt8) (hs : a.eval s = v) (hown : Own w base v l)
    (A : Option Addr) (m c : Nat) (l2 : List UInt8) (hx : a.eval x = .slice A m c) (hrd : Rd w A m c l2) (hlen : l.length + l2.length ≤ 140737488355328) (hbase : base ≤ w.heap.size)
    (h : ∀ v' w', Own w' base v' (l ++ l2) → w.grownBy w' v.ownBlock → (v' = .slice none 0 0 ↔ v = .slice none 0 0 ∧ l2 = []) → (v'.ownBlock = v.ownBlock ∨ v'.ownBlock = some w.heap.size) → wpList Tryd.prog ops Q rest (a.put o.dst v') w') :
    wpList Tryd.prog ops Q (o :: rest) a w :=
  wpList_plain hgd fun _ hK => op_appB s x ho base v l hs hown A m c l2 hx hrd hlen hbase fun v' w' h1 h2 h3 h4 => hK _ _ (h v' w' h1 h2 h3 h4)
end Go.Proofs.YtomngfihaohgdaaDoor
