/-
  objstore: All; the iterator's beginning.
-/
import Derived.Test.YtgjnmpjimhbfgaaGreatDoorZzSm13
import Derived.Test.YtgjnmpjimhbfgaaGreatDoorZzRangeH
namespace Go.Proofs.YtgjnmpjimhbfgaaGreatDoor
set_option maxRecDepth 100000
open Go.RowKit
attribute [local go_sem] Oper.semAt_some
theorem stall_any (p : Option Addr) (w : World) : Calls Tryz.prog 22 #[.pointer p] w fun e w' => e = .returned (.func (.func 53) #[] #[.pointer (some ⟨w.heap.size, 0, none⟩)]) ∧ w' = w.alloc (.cells #[.pointer p] 28) := by
 go_enter Tryz.func22, Tryz.ntmps22
 go_wp2
 try go_ret
 exact ⟨rfl, rfl⟩
def alArg (M : List SRec) (k : Nat) (args : Array Value) (W : World) : Prop := ∃ p A c, M[k]? = some p ∧ args = #[.int .i64 p.1, .slice A p.2.length c] ∧ Rd W A p.2.length c p.2
structure AlI (w0 wl W : World) (J : Nat → List Nat → World → Prop) (k : Nat) (A : Option Addr) (c : Nat) (M : List SRec) (Gk : List Nat) : Prop where
 j : J k Gk wl
 ids : OwnE Tryz.eIr wl W.heap.size (.slice A M.length c) (M.map (·.1))
 old : Old w0 wl
 lt : ∀ y ∈ Gk, y < wl.heap.size
 own : ∀ y, (Value.slice A M.length c).ownBlock = some y → y ∈ Gk
set_option maxHeartbeats 4000000 in
theorem all_iter (w0 : World) (bx x b : Nat) (v r br : Value) (M : List SRec) (hbx : w0.cell? ⟨bx, 0, none⟩ = some (.pointer (some ⟨x, 0, none⟩))) (_hbl : bx < w0.heap.size) (hx : Blk w0 x 83 #[v, r, .map (some b), br]) (hM : RMap w0 b M) (hN : M.length ≤ 100000) (hl : ∀ q ∈ M, q.2.length ≤ 100000) :
  IterH Tryz.prog 53 #[.pointer (some ⟨bx, 0, none⟩)] (alArg M) M.length (fun _ W => Old w0 W) w0.heap.size := by
 intro l J Jx W G hJ hJx hY h0 hS
 have hne := neStore
 have c0 : W.cell? ⟨bx, 0, none⟩ = some (.pointer (some ⟨x, 0, none⟩)) := cell_old hS hbx
 have hx0 := hx.cell 2
 simp only [List.getElem?_toArray, List.getElem?_cons_succ, List.getElem?_cons_zero] at hx0
 have c2 := cell_old hS hx0
 have hids := ids_any b M W (hM.below hS) hN
 refine callsIn_of_wp Tryz.func53 rfl trivial ?_ rfl
 simp only [Tryz.ntmps53, List.size_toArray, List.length_cons, List.length_nil, Nat.reduceAdd, Nat.reduceSub, Array.replicate_succ, Array.replicate_zero, List.push_toArray, List.append_toArray, List.nil_append, List.cons_append]
 have HY := Lib.hid hY
 have HV := Lib.hid (And.intro hS (And.intro h0 (And.intro hM (And.intro hN hl))))
 clear hY hS h0 hM hN hl hbx hx hx0
 gi_wp2_with (fail)
 refine ⟨trivial, ?_⟩
 refine (callsIn_wide.2 hids).mono ?_
 rintro e w1 ⟨A1, c1, rfl, hO1, hb1⟩
 have hJ1 : J 0 (Value.slice A1 M.length c1).ownBlock.toList w1 := hJ 0 G _ W w1 HV.out.2.1 (Turn.of_below G hb1) (fun y hy => .inr (hO1.lt (by simpa using hy)).1)
 have HI0 := Lib.hid (show AlI w0 w1 W J 0 A1 c1 M (Value.slice A1 M.length c1).ownBlock.toList from ⟨hJ1, hO1, Old.trans HV.out.1 hb1, fun y hy => (hO1.lt (by simpa using hy)).2, fun y hy => by rw [hy]; simp⟩)
 obtain ⟨N, hNN⟩ : ∃ N, M.length = N := ⟨_, rfl⟩
 rw [hNN]
 have HN := Lib.hid hNN
 clear hids hO1 hb1 hJ1 hNN c0 c2
 gi_wp2
 gi_loopw [15] (fun i wl => ∃ k : Nat, k ≤ N ∧ i = .int .i64 (k : Int) ∧ ∃ Gk, AlI w0 wl W J k A1 c1 M Gk) (fun i _ => N - (intOf i).toNat)
 case atStart => exact ⟨0, by omega, rfl, _, HI0.out⟩
 case round =>
  obtain ⟨k, hk, rfl, Gk, hI⟩ := hrel
  have HI := Lib.hid hI
  clear hI
  by_cases hlt : k < N
  ·have hki : (k : Int) < N := by omega
   have hkb : (k : Int) + 1 ≤ 100000 := by have := HV.out.2.2.2.1; have := HN.out; omega
   obtain ⟨p, hp⟩ : ∃ p, M[k]? = some p := ⟨_, List.getElem?_eq_getElem (by rw [HN.out]; exact hlt)⟩
   obtain ⟨g, off, rfl, _, h3⟩ := HI.out.ids.rd.at_ (j := k) (x := p.1) (by rw [List.getElem?_map, hp]; rfl)
   have k0 : wr.cell? ⟨g, off + k, none⟩ = some (.int .i64 p.1) := by have := h3 0 (by decide); have hs : Tryz.eIr.sz = 1 := rfl; rw [hs, Nat.mul_one, Nat.add_zero] at this; exact this
   have hpm := List.mem_of_getElem? hp
   obtain ⟨A5, c5, hlk, hO5⟩ := (HV.out.2.2.1.below HI.out.old).look hpm
   have hll := HV.out.2.2.2.2 p hpm
   have hcl := rclone_own A5 p.2.length c5 p.2 wr hO5.rd (by omega)
   obtain ⟨pl, hpl⟩ : ∃ pl, p.2.length = pl := ⟨_, rfl⟩
   obtain ⟨pi, hpi⟩ : ∃ pi, p.1 = pi := ⟨_, rfl⟩
   rw [hpl] at hlk hcl
   rw [hpi] at k0 hlk
   have HP := Lib.hid (And.intro hp (And.intro hpl hpi))
   clear h3 hp hpm hO5 hll hpl hpi
   gi_wp2_with (fail)
   refine ⟨trivial, ?_⟩
   refine (callsIn_wide.2 hcl).mono ?_
   rintro e w5 ⟨A6, c6, rfl, hO6, hb6⟩
   have hJ5 : J k Gk w5 := hJ k Gk Gk wr w5 HI.out.j (Turn.of_below Gk hb6) (fun y hy => .inl hy)
   have hlt5 : ∀ y ∈ Gk, y < w5.heap.size := fun y hy => Nat.lt_of_lt_of_le (HI.out.lt y hy) hb6.size
   have hA5 : alArg M k #[.int .i64 pi, .slice A6 pl c6] w5 := ⟨p, A6, c6, HP.out.1, by rw [HP.out.2.1, HP.out.2.2], by rw [HP.out.2.1]; exact hO6.rd⟩
   obtain ⟨fn, tmps, assign, body, hy, hR⟩ := HY.out k _ Gk w5 (by rw [HN.out]; exact hlt) hJ5 hA5 hlt5
   have HR := Lib.hid hR
   have H5 := Lib.hid (And.intro hb6 hlt5)
   clear hR hcl hO6 hb6 hJ5 hlt5 hA5 hlk k0
   gi_wp2
   refine HR.out.mono ?_
   rintro e W' (⟨rfl, hJ', S, hTS, hS⟩ | ⟨rfl, hJx'⟩)
   ·have HM2 := Lib.hid (And.intro hJ' (And.intro hTS hS))
    clear hJ' hTS hS
    gi_wp2
    go_roundw
    case rel =>
     refine ⟨k + 1, by omega, by go_num, Gk, HM2.out.1, ?_, ?_, fun y hy => Nat.lt_of_lt_of_le (H5.out.2 y hy) HM2.out.2.1.size, HI.out.own⟩
     ·exact (HI.out.ids.below H5.out.1).turn HM2.out.2.1 (fun g hg hm => (HM2.out.2.2 g hm).1 (HI.out.own g hg))
     ·exact (Old.trans HI.out.old H5.out.1).tnew HM2.out.2.1 (fun y hy => (HM2.out.2.2 y hy).2)
    case measure => simp [intOf]; omega
   ·gi_wp2
    refine bodyPost_ret (results_none rfl _ _ _) rfl ?_
    exact ⟨⟨_, rfl⟩, .inr ⟨k, by rw [HN.out]; exact hlt, hJx'⟩⟩
  ·obtain rfl : k = N := by omega
   have hki : ¬ (k : Int) < k := by omega
   gi_wp2
   go_end0
   exact ⟨⟨_, rfl⟩, .inl ⟨Gk, by rw [HN.out]; exact HI.out.j⟩⟩
end Go.Proofs.YtgjnmpjimhbfgaaGreatDoor
namespace Go.Proofs.YtgjnmpjimhbfgaaGreatDoor
set_option maxRecDepth 100000
open Go.RowKit
theorem stparam_any (A : Option Addr) (m c : Nat) (l : List UInt8) (w : World) (h : Rd w A m c l) (hm : m ≤ 100000) : Calls Tryz.prog 45 #[.slice A m c] w fun e w' => ∃ A' n' c', e = .returned (.slice A' n' c') ∧ Own w' w.heap.size (.slice A' n' c') (12 :: l) ∧ Old w w' := by
 have h1 := Own.of_blk (w := w.alloc (.cells (([12] : List UInt8).map B).toArray 5)) (base := w.heap.size) (l := [12]) (n := 1) (Blk.new _ _ _) rfl (by unfold maxLen; omega) (Nat.le_refl _)
 have hl := h.1
 have H1 := Lib.hid (And.intro h1 (And.intro (h.below ((Old.refl w).alloc (.cells (([12] : List UInt8).map B).toArray 5))) (show m = l.length from hl)))
 clear h1 h hl
 go_enter Tryz.func45, Tryz.ntmps45
 go_wp2_with (at_builtin; go_loud (refine wp_app2 (.tmp 3) (.tmp 4) w.heap.size (.slice (some ⟨w.heap.size, 0, none⟩) 1 1) [12] H1.out.1 (by simp) A m c l H1.out.2.1 (by have := H1.out.2.2; simp; omega) rfl rfl rfl rfl ?_; intro A9 n9 c9 w9 hn9 hG9; have H9 := Lib.hid hG9; clear hG9))
 go_ret
 exact ⟨A9, n9, c9, rfl, H9.out.own, Below.trans ((Old.refl w).alloc _) H9.out.below⟩
structure RcV where
 id : Int
 A : Option Addr
 n : Nat
 c : Nat
 l : List UInt8
def RcV.rec_ (p : RcV) : SRec := (p.id, p.l)
def Tryz.eRc : ETy RcV where
 t := 53
 ts := 50
 sz := 2
 bytes := 32
 z := .agg #[.int .i64 0, .slice none 0 0]
 cells := fun p => [.int .i64 p.id, .slice p.A p.n p.c]
 len := fun _ => rfl
 one := fun x u hu => by simp at hu; rcases hu with rfl | rfl <;> rfl
 pos := by decide
 zsz := rfl
 small := by decide
 und := Tryz.underlying50
 info := by kernel_rfl
def RcAt (w : World) (base : Nat) (v : Value) (rs : List RcV) : Prop := OwnE Tryz.eRc w base v rs ∧ ∀ p ∈ rs, Own w 0 (.slice p.A p.n p.c) p.l
theorem RcAt.below {w w' : World} {base : Nat} {v : Value} {rs : List RcV} (h : RcAt w base v rs) (hb : Old w w') : RcAt w' base v rs := ⟨h.1.below hb, fun p hp => (h.2 p hp).below hb⟩
theorem RcAt.mono {w : World} {base base' : Nat} {v : Value} {rs : List RcV} (h : RcAt w base v rs) (hb : base' ≤ base) : RcAt w base' v rs := ⟨h.1.mono hb, h.2⟩
theorem RcAt.nil (w : World) (base : Nat) : RcAt w base (.slice none 0 0) [] := ⟨OwnE.nil _ _, fun p hp => (by cases hp)⟩
theorem RcAt.turn {w w' : World} {base : Nat} {v : Value} {rs : List RcV} {S : List Nat} (h : RcAt w base v rs) (ht : Turn S w w') (hS : ∀ g ∈ S, w.heap.size ≤ g ∨ ∃ t cs, Blk w g t cs ∧ t ≠ 5 ∧ t ≠ 53) : RcAt w' base v rs := by
 refine ⟨h.1.turn ht (fun g hg hm => ?_), fun p hp => (h.2 p hp).turn ht (fun g hg hm => ?_)⟩
 ·rcases hS g hm with h1 | ⟨t, cs, hb, _, h2⟩
  ·have := (h.1.lt hg).2; omega
  ·exact h.1.ne hb h2 hg
 ·rcases hS g hm with h1 | ⟨t, cs, hb, h2, _⟩
  ·have := ((h.2 p hp).lt hg).2; omega
  ·exact (h.2 p hp).ne hb h2 hg
theorem RcAt.snoc {w w1 w' : World} {base : Nat} {A A' : Option Addr} {n c n' c' : Nat} {rs : List RcV} {p : RcV} (h : RcAt w base (.slice A n c) rs) (hp : Own w 0 (.slice p.A p.n p.c) p.l) (h1 : Old w w1)
  (hG : GrewE Tryz.eRc base w1 w' (.slice A n c) A' n' c' (rs ++ [p])) : RcAt w' base (.slice A' n' c') (rs ++ [p]) := by
 have hown : ∀ q : RcV, Own w 0 (.slice q.A q.n q.c) q.l → Own w' 0 (.slice q.A q.n q.c) q.l := fun q hq => by
  have hq2 := hq.below h1
  refine hq2.keep fun g' hg' => ?_
  refine hG.grown.block g' (hq2.lt hg').2 (fun e => ?_)
  obtain ⟨cs, hbk⟩ := OwnE.blk (h.1.below h1) (g := g') e.symm
  exact hq2.ne hbk (by decide) hg'
 refine ⟨hG.own, fun r hr => ?_⟩
 rcases List.mem_append.1 hr with hr | hr
 ·exact hown r (h.2 r hr)
 ·rw [List.mem_singleton] at hr
  subst hr
  exact hown _ hp
def recs (rs : List RcV) : List SRec := rs.map RcV.rec_
theorem recs_get {rs : List RcV} {i : Nat} {p : RcV} (h : rs[i]? = some p) : (recs rs)[i]? = some (p.id, p.l) := by unfold recs; rw [List.getElem?_map, h]; rfl
theorem recs_snoc (rs : List RcV) (p : RcV) : recs (rs ++ [p]) = recs rs ++ [(p.id, p.l)] := by unfold recs; rw [List.map_append]; rfl
theorem recs_len (rs : List RcV) : (recs rs).length = rs.length := List.length_map _
theorem RcAt.cells {w : World} {base : Nat} {A : Option Addr} {n c : Nat} {rs : List RcV} (h : RcAt w base (.slice A n c) rs) {i : Nat} {p : RcV} (hp : rs[i]? = some p) :
  ∃ g off, A = some ⟨g, off, none⟩ ∧ g < w.heap.size ∧ w.cell? ⟨g, off + i * 2, none⟩ = some (.int .i64 p.id) ∧ w.cell? ⟨g, off + i * 2 + 1, none⟩ = some (.slice p.A p.n p.c) := by
 obtain ⟨g, off, e, hg, hc⟩ := h.1.rd.at_ hp
 exact ⟨g, off, e, hg, hc 0 (by decide), hc 1 (by decide)⟩
theorem sload_take_le (M : List SRec) (k : Nat) : sload (M.take k) ≤ sload M := by
 have h : M = M.take k ++ M.drop k := (List.take_append_drop k M).symm
 conv => rhs; rw [h]
 unfold sload
 rw [List.map_append, List.sum_append]
 omega
theorem sload_snoc (M : List SRec) (p : SRec) : sload (M ++ [p]) = sload M + (p.2.length + 8) := by
 unfold sload
 rw [List.map_append, List.sum_append]
 simp
theorem lload_any (A : Option Addr) (n c base : Nat) (rs : List RcV) (w : World) (h : RcAt w base (.slice A n c) rs) (hl : sload (recs rs) ≤ 1000000000) :
  Calls Tryz.prog 24 #[.slice A n c] w fun e w' => e = .returned (.int .i64 (sload (recs rs) : Int)) ∧ Old w w' := by
 have hnl := h.1.len
 have hnm := h.1.max.1
 unfold maxLen at hnm
 have HH := Lib.hid (And.intro h (And.intro hl hnl))
 obtain ⟨T, hT⟩ : ∃ T, sload (recs rs) = T := ⟨_, rfl⟩
 rw [hT]
 have HT := Lib.hid hT
 clear h hl hnl hT
 go_enter Tryz.func24, Tryz.ntmps24
 go_wp2_with fail
 go_loopw [3, 4] (fun sv iv wl => ∃ k s : Nat, k ≤ n ∧ iv = .int .i64 (k : Int) ∧ sv = .int .i64 (s : Int) ∧ s = sload ((recs rs).take k) ∧ Old w wl) (fun _ iv _ => n - (intOf iv).toNat)
 case atStart => exact ⟨0, 0, by omega, rfl, rfl, rfl, Old.refl _⟩
 case round =>
  obtain ⟨k, s, hk, rfl, rfl, hs, hO⟩ := hrel
  by_cases hlt : k < n
  ·have hki : (k : Int) < n := by omega
   have hkd : decide ((k : Int) < (n : Int)) = true := decide_eq_true hki
   obtain ⟨p, hp⟩ : ∃ p, rs[k]? = some p := ⟨_, List.getElem?_eq_getElem (by rw [← HH.out.2.2]; exact hlt)⟩
   obtain ⟨g, off, rfl, hg, z0, z1⟩ := (HH.out.1.below hO).cells hp
   have hpl := (HH.out.1.2 p (List.mem_of_getElem? hp)).len
   obtain ⟨pn, hpn⟩ : ∃ pn, p.n = pn := ⟨_, rfl⟩
   rw [hpn] at z1 hpl
   have hs2 : s + (pn + 8) = sload ((recs rs).take (k + 1)) := by rw [take_snoc (recs_get hp), sload_snoc, ← hs, hpl]
   have hle := sload_take_le (recs rs) (k + 1)
   have hl := HH.out.2.1
   have hb1 : s + (pn + 8) ≤ 1000000000 := by omega
   have w1 : IntKind.i64.wrap ((pn : Int) + 8) = (pn : Int) + 8 := IntWalk.i64_in _ (by omega)
   have w2 : IntKind.i64.wrap ((s : Int) + ((pn : Int) + 8)) = (s : Int) + ((pn : Int) + 8) := IntWalk.i64_in _ (by omega)
   have HP := Lib.hid (And.intro hs2 (And.intro hO (And.intro hlt hb1)))
   clear hs hp hpl hpn hs2 hle hl hO hlt hg z0 hb1
   go_wp2_with fail
   go_roundw
   case rel => exact ⟨k + 1, s + (pn + 8), HP.out.2.2.1, by go_num, by go_num, HP.out.1, HP.out.2.1⟩
   case measure => have := HP.out.2.2.1; simp [intOf]; omega
  ·obtain rfl : k = n := by omega
   have hki : ¬ (k : Int) < k := by omega
   have hst : s = T := by rw [hs, ← HT.out, List.take_of_length_le (by rw [recs_len, ← HH.out.2.2]; exact Nat.le_refl _)]
   subst hst
   have HO := Lib.hid hO
   clear hs hO hk
   go_wp2_with fail
   go_ret
   exact ⟨rfl, HO.out⟩
structure AfS (w W : World) (X X3 g : Nat) (ic : Array Value) (id : Int) (n : Nat) (bl : List UInt8) (v : Value) : Prop where
 box : Blk W X 101 ic
 rc : Blk W X3 53 #[.int .i64 id, .slice (some ⟨g, 0, none⟩) n n]
 row : Own W 0 (.slice (some ⟨g, 0, none⟩) n n) bl
 old : Old w W
 ne : ∀ y, v.ownBlock = some y → y ≠ X3
theorem AfS.below {w W W' : World} {X X3 g n : Nat} {ic : Array Value} {id : Int} {bl : List UInt8} {v : Value} (h : AfS w W X X3 g ic id n bl v) (hb : Old W W') : AfS w W' X X3 g ic id n bl v := ⟨h.box.below hb, h.rc.below hb, h.row.below hb, Old.trans h.old hb, h.ne⟩
theorem AfS.grow {w W w7 : World} {X X3 g n n1 c1 n7 c7 base : Nat} {ic : Array Value} {id : Int} {bl : List UInt8} {A1 A7 : Option Addr} {l1 l2 : List RcV} (h : AfS w W X X3 g ic id n bl (.slice A1 n1 c1)) (ho : OwnE Tryz.eRc W base (.slice A1 n1 c1) l1)
  (hG : GrewE Tryz.eRc base W w7 (.slice A1 n1 c1) A7 n7 c7 l2) (hbw : base = w.heap.size) : AfS w w7 X X3 g ic id n bl (.slice A7 n7 c7) := by
 subst hbw
 have keep : ∀ y, y < W.heap.size → (Value.slice A1 n1 c1).ownBlock ≠ some y → w7.heap[y]? = W.heap[y]? := fun y hy hn => hG.grown.block y hy (fun e => hn e.symm)
 refine ⟨h.box.keep (keep X h.box.lt (ho.ne h.box (by decide))), h.rc.keep (keep X3 h.rc.lt (fun e => h.ne X3 e rfl)), h.row.keep (fun y hy => keep y (h.row.lt hy).2 (fun e => ?_)), Below.trans h.old hG.below, fun y hy => ?_⟩
 ·obtain ⟨cs, hbk⟩ := ho.blk e
  exact h.row.ne hbk (by decide) hy
 ·rcases hG.at_ with e | e
  ·exact h.ne y (e ▸ hy)
  ·rw [e] at hy
   cases hy
   have := h.rc.lt
   omega
theorem lafter_any (A : Option Addr) (m c base : Nat) (rs : List RcV) (id : Int) (n : Nat) (drop : Bool) (A2 : Option Addr) (m2 c2 : Nat) (l2 : List UInt8) (w : World) (h : RcAt w base (.slice A m c) rs) (hR : Rising (recs rs)) (hm : m ≤ 90000) (hb : RdE w A2 m2 c2 l2) (hn : n ≤ 20000) :
  Calls Tryz.prog 56 #[.slice A m c, .agg #[.int .i64 id, .int .i64 (n : Int), .bool drop, .slice A2 m2 c2]] w fun e w' =>
   ∃ A' n' c' rs', e = .returned (.slice A' n' c') ∧ RcAt w' w.heap.size (.slice A' n' c') rs' ∧ recs rs' = schg (recs rs) id drop (full l2 n) ∧ Old w w' := by
 have hml := h.1.len
 obtain ⟨w1, hw1⟩ : ∃ w1, w.alloc (.cells #[.int .i64 id, .int .i64 (n : Int), .bool drop, .slice A2 m2 c2] 101) = w1 := ⟨_, rfl⟩
 have hO1 : Old w w1 := by rw [← hw1]; exact (Old.refl w).alloc _
 obtain ⟨X, hX⟩ : ∃ X, w.heap.size = X := ⟨_, rfl⟩
 have hbk : Blk w1 X 101 #[.int .i64 id, .int .i64 (n : Int), .bool drop, .slice A2 m2 c2] := by rw [← hw1, ← hX]; exact Blk.new w _ _
 have hBx := hbk
 have c0 := hbk.cell 0
 have c1 := hbk.cell 1
 have c2' := hbk.cell 2
 have c3 := hbk.cell 3
 simp only [List.getElem?_toArray, List.getElem?_cons_succ, List.getElem?_cons_zero] at c0 c1 c2' c3
 have hfl : ∀ W, Old w1 W → Calls Tryz.prog 55 #[.slice A2 m2 c2, .int .i64 (n : Int)] W (fun e w' => ∃ g, e = .returned (.slice (some ⟨g, 0, none⟩) n n) ∧ Own w' W.heap.size (.slice (some ⟨g, 0, none⟩) n n) (full l2 n) ∧ Below W.heap.size W w') := fun W ho => full_e A2 m2 c2 n l2 W ((hb.below hO1).below ho) hn
 have HH := Lib.hid (And.intro h (And.intro hR (And.intro hml (And.intro hO1 (And.intro c0 (And.intro c1 (And.intro c2' c3)))))))
 obtain ⟨TG, hTG⟩ : ∃ TG : Ending → World → Prop, (fun e w' => ∃ A' n' c' rs', e = .returned (.slice A' n' c') ∧ RcAt w' w.heap.size (.slice A' n' c') rs' ∧ recs rs' = schg (recs rs) id drop (full l2 n) ∧ Old w w') = TG := ⟨_, rfl⟩
 rw [hTG]
 clear h hR hml hO1 c0 c1 c2' c3 hbk hb
 go_enter Tryz.func56, Tryz.ntmps56
 have c2' := HH.out.2.2.2.2.2.2.1
 go_upto_region 3 with fail
 clear hw1 c2'
 have hXw := Lib.hid hX
 clear hX
 go_cut [7] (fun v wx => ∃ X3 g : Nat, v = .pointer (some ⟨X3, 0, none⟩) ∧ Blk wx X3 53 #[.int .i64 id, .slice (some ⟨g, 0, none⟩) n n] ∧ Own wx w.heap.size (.slice (some ⟨g, 0, none⟩) n n) (full l2 n) ∧ Old w wx ∧ Old w1 wx)
 case first =>
  refine region_old (by kernel_rfl) (fun wd hHeld hSz => ?_)
  have HSz := Lib.hid hSz
  clear hSz
  refine tkS 0 hHeld ?_
  refine tkS 1 hHeld ?_ (hy := by intro wq hSw; have c0 := cell_old hSw HH.out.2.2.2.2.1; have c1 := cell_old hSw HH.out.2.2.2.2.2.1; have c3 := cell_old hSw HH.out.2.2.2.2.2.2.2; clear hSw; go_simp; try with_reducible rfl)
  refine tkS 2 hHeld ?_
  refine tkS 3 hHeld ?_ (hy := by intro wq hSw; have c0 := cell_old hSw HH.out.2.2.2.2.1; have c1 := cell_old hSw HH.out.2.2.2.2.2.1; have c3 := cell_old hSw HH.out.2.2.2.2.2.2.2; clear hSw; go_simp; try with_reducible rfl)
  refine tkS 4 hHeld ?_
  refine tkS 5 hHeld ?_ (hy := by intro wq hSw; have c0 := cell_old hSw HH.out.2.2.2.2.1; have c1 := cell_old hSw HH.out.2.2.2.2.2.1; have c3 := cell_old hSw HH.out.2.2.2.2.2.2.2; clear hSw; go_simp; try with_reducible rfl)
  refine wpAnyH_ready (rs := [6, 8]) (by kernel_rfl) (by simp) ?_
  refine consL rfl (fun K hK => ?_) (consL rfl (fun K hK => ?_) AllReadyH.nil)
  ·go_simp
   refine (hfl _ hHeld).mono ?_
   rintro e w2 ⟨g, rfl, hO2, hb2⟩
   have H2 := Lib.hid (And.intro hO2 (And.intro hHeld hb2))
   clear hO2 hb2 hfl
   refine hK.out _ _ (Old.trans hHeld H2.out.2.2) (fun hHeld => ?_)
   clear hK K
   try simp only [Act.put, sA, sB, sC]
   refine tkS 7 hHeld ?_
   refine rdL 8 (fun K hK => ?_)
   go_simp
   skip
   refine hK.out _ _ (hHeld.alloc _) (fun hHeld => ?_)
   clear hK K
   try simp only [Act.put, sA, sB, sC]
   refine rdL 9 (fun K hK => ?_)
   go_simp
   skip
   refine hK.out _ _ (Old.alloc (Old.trans H2.out.2.1 H2.out.2.2) _) (fun hHeld => ?_)
   clear hK K
   try simp only [Act.put, sA, sB, sC]
   refine wpAnyH_done (by kernel_rfl) ?_ _
   refine NoPanic.normal ?_
   try simp only [Exit.then]
   try go_at_K
   go_wp2_with fail
   go_meet
   case rel => exact ⟨w2.heap.size, g, rfl, Blk.new w2 _ _, ((H2.out.1.mono (Old.trans HH.out.2.2.2.1 H2.out.2.1).size).below ((Old.refl w2).alloc _)), Old.alloc (Old.trans HH.out.2.2.2.1 (Old.trans H2.out.2.1 H2.out.2.2)) _, Old.alloc (Old.trans H2.out.2.1 H2.out.2.2) _⟩
  ·go_simp
   refine hK.out _ _ (hHeld.alloc _) (fun hHeld => ?_)
   clear hK K
   try simp only [Act.put, sA, sB, sC]
   refine rdL 6 (fun K hK => ?_)
   go_simp
   refine (hfl _ hHeld).mono ?_
   rintro e w2 ⟨g, rfl, hO2, hb2⟩
   have H2 := Lib.hid (And.intro hO2 (And.intro hHeld hb2))
   clear hO2 hb2 hfl
   refine hK.out _ _ (Old.trans hHeld H2.out.2.2) (fun hHeld => ?_)
   clear hK K
   try simp only [Act.put, sA, sB, sC]
   refine tkS 7 hHeld ?_
   have bz : Blk w2 wd.heap.size 53 #[.int .i64 0, .slice none 0 0] := (Blk.new wd _ _).below H2.out.2.2
   have z0 := bz.cell 0
   have z1 := bz.cell 1
   have f0 := bz.frozen 0
   have f1 := bz.frozen 1
   simp only [List.getElem?_toArray, List.getElem?_cons_succ, List.getElem?_cons_zero] at z0 z1
   have hOs : Old w1 ((w2.setCell ⟨wd.heap.size, 0, none⟩ (.int .i64 id)).setCell ⟨wd.heap.size, 1, none⟩ (.slice (some ⟨g, 0, none⟩) n n)) := below_turn (Old.trans H2.out.2.1 H2.out.2.2) (((Turn.refl [wd.heap.size] w2).setCell (.inl (by simp)) _).setCell (.inl (by simp)) _) (by intro u hu; simp at hu; subst hu; have := H2.out.2.1.size; exact HSz.out ▸ Nat.le_refl _) (Old.trans H2.out.2.1 H2.out.2.2).size
   have bs := (bz.set_ 0 (.int .i64 id)).set_ 1 (.slice (some ⟨g, 0, none⟩) n n)
   have ho := (H2.out.1.mono (Old.trans HH.out.2.2.2.1 H2.out.2.1).size).turn (w' := (w2.setCell ⟨wd.heap.size, 0, none⟩ (.int .i64 id)).setCell ⟨wd.heap.size, 1, none⟩ (.slice (some ⟨g, 0, none⟩) n n)) (((Turn.refl [wd.heap.size] w2).setCell (.inl (by simp)) _).setCell (.inl (by simp)) _) (fun k hk hm => by simp at hm; subst hm; exact H2.out.1.ne bz (by decide) hk)
   have HOs := Lib.hid (And.intro hOs (And.intro bs ho))
   clear bz hOs bs ho
   refine rdL 9 (fun K hK => ?_)
   go_simp
   skip
   refine hK.out _ _ HOs.out.1 (fun hHeld => ?_)
   clear hK K
   try simp only [Act.put, sA, sB, sC]
   refine wpAnyH_done (by kernel_rfl) ?_ _
   refine NoPanic.normal ?_
   try simp only [Exit.then]
   try go_at_K
   go_wp2_with fail
   go_meet
   case rel => exact ⟨wd.heap.size, g, rfl, by have := HOs.out.2.1; simpa using this, HOs.out.2.2, Old.trans HH.out.2.2.2.1 HOs.out.1, HOs.out.1⟩
 case rest =>
  obtain ⟨X3, g, rfl, hb3, hO3, hB3, hB4⟩ := hcut
  obtain ⟨bl, hbl⟩ : ∃ bl, full l2 n = bl := ⟨_, rfl⟩
  rw [hbl] at hO3 hTG
  obtain ⟨ic, hic⟩ : ∃ ic : Array Value, #[.int .i64 id, .int .i64 (n : Int), .bool drop, .slice A2 m2 c2] = ic := ⟨_, rfl⟩
  have hbx := hBx.below hB4
  rw [hic] at hbx
  have hAf : AfS w wc X X3 g ic id n bl (.slice none 0 0) := ⟨hbx, hb3, hO3.mono (Nat.zero_le _), hB3, fun y hy => by simp [Value.ownBlock] at hy⟩
  have hic0 : ic[0]? = some (.int .i64 id) := by rw [← hic]; rfl
  have HC := Lib.hid (And.intro hAf hic0)
  have HTG := Lib.hid hTG
  clear hb3 hO3 hB3 hB4 hbl hTG hbx hic hAf hic0 hBx
  go_wp2_with fail
  go_loopw [5, 6, 8] (fun lv dv iv wl => ∃ (i : Nat) (dn : Bool) (A' : Option Addr) (n' c' : Nat) (L : List RcV), i ≤ m ∧ iv = .int .i64 (i : Int) ∧ dv = .bool dn ∧ lv = .slice A' n' c' ∧ RcAt wl w.heap.size (.slice A' n' c') L ∧ ChgI (recs rs) id drop bl i dn (recs L) ∧ L.length ≤ 2 * i ∧ AfS w wl X X3 g ic id n bl (.slice A' n' c')) (fun _ _ iv _ => m - (intOf iv).toNat)
  case atStart => exact ⟨0, drop, none, 0, 0, [], by omega, rfl, rfl, rfl, RcAt.nil _ _, ChgI.start _ _ _ _, by simp, HC.out.1⟩
  case round =>
   obtain ⟨i, dn, A', n', c', L, hi, rfl, rfl, rfl, hL, hC, hLl, hS⟩ := hrel
   by_cases hlt : i < m
   ·have hii : (i : Int) < m := by omega
    have hid : decide ((i : Int) < (m : Int)) = true := decide_eq_true hii
    have hiw : IntKind.i64.wrap ((i : Int) + 1) = (i : Int) + 1 := IntWalk.i64_in _ (by omega)
    obtain ⟨p, hp⟩ : ∃ p, rs[i]? = some p := ⟨_, List.getElem?_eq_getElem (by rw [← HH.out.2.2.1]; exact hlt)⟩
    obtain ⟨ga, oa, rfl, hga, z0, z1⟩ := (HH.out.1.below hS.old).cells hp
    have hpo := (HH.out.1.2 p (List.mem_of_getElem? hp)).below hS.old
    have y0 := (hS.box.cell 0).trans HC.out.2
    have x0 := hS.rc.cell 0
    have x1 := hS.rc.cell 1
    simp only [List.getElem?_toArray, List.getElem?_cons_succ, List.getElem?_cons_zero] at x0 x1
    obtain ⟨pid, hpid⟩ : ∃ x, p.id = x := ⟨_, rfl⟩
    obtain ⟨pA, hpA⟩ : ∃ x, p.A = x := ⟨_, rfl⟩
    obtain ⟨pn, hpn⟩ : ∃ x, p.n = x := ⟨_, rfl⟩
    obtain ⟨pc, hpc⟩ : ∃ x, p.c = x := ⟨_, rfl⟩
    rw [hpid] at z0
    rw [hpA, hpn, hpc] at z1
    have hcp : Tryz.eRc.cells p = [.int .i64 pid, .slice pA pn pc] := by
     show [Value.int .i64 p.id, .slice p.A p.n p.c] = _
     rw [hpid, hpA, hpn, hpc]
    have hgp := recs_get hp
    have HP := Lib.hid (And.intro hL (And.intro hC (And.intro hLl (And.intro hS (And.intro hpo (And.intro hcp (And.intro hgp hlt)))))))
    have HE := Lib.hid hpid
    have HG := Lib.hid hp
    clear hp hL hC hLl hS hpo hcp hgp hlt hga hpid hpA hpn hpc
    cases dn with
    | true =>
     by_cases h1 : pid = id
     ·subst h1
      have h1 : p.id = pid := HE.out
      go_wp2_with fail
      go_quiet (fail)
      have ho1 : Old wr (wr.drewN nq) := (Old.refl wr).drewN nq
      replace z0 := cell_old ho1 z0
      replace z1 := cell_old ho1 z1
      replace x0 := cell_old ho1 x0
      replace x1 := cell_old ho1 x1
      replace y0 := cell_old ho1 y0
      generalize wr.drewN nq = wA at *
      clear nq
      go_wp2_with fail
      go_quiet (fail)
      have ho2 : Old wA (wA.drewN nq) := (Old.refl wA).drewN nq
      replace z0 := cell_old ho2 z0
      replace z1 := cell_old ho2 z1
      replace x0 := cell_old ho2 x0
      replace x1 := cell_old ho2 x1
      replace y0 := cell_old ho2 y0
      generalize wA.drewN nq = wB at *
      clear nq
      have HQ := Lib.hid (Old.trans ho1 ho2)
      clear ho1 ho2
      go_wp2_with fail
      go_roundw
      case measure => have := HP.out.2.2.2.2.2.2.2; simp [intOf]; omega
      case rel =>
       refine ⟨i + 1, true, A', n', c', L, HP.out.2.2.2.2.2.2.2, by go_num, rfl, rfl, HP.out.1.below HQ.out, ?_, by have := HP.out.2.2.1; omega, HP.out.2.2.2.1.below HQ.out⟩
       have hh := HP.out.2.1.over HH.out.2.1 HP.out.2.2.2.2.2.2.1
       simp only [if_pos h1, List.append_nil] at hh
       exact hh
     ·have hq : (pid != id) = true := by simp [h1]
      have h2 := h1
      rw [← HE.out] at h1
      go_wp2_with fail
      go_quiet (fail)
      have ho1 : Old wr (wr.drewN nq) := (Old.refl wr).drewN nq
      replace z0 := cell_old ho1 z0
      replace z1 := cell_old ho1 z1
      replace x0 := cell_old ho1 x0
      replace x1 := cell_old ho1 x1
      replace y0 := cell_old ho1 y0
      generalize wr.drewN nq = wA at *
      clear nq
      go_wp2_with fail
      go_quiet (fail)
      have ho2 : Old wA (wA.drewN nq) := (Old.refl wA).drewN nq
      replace z0 := cell_old ho2 z0
      replace z1 := cell_old ho2 z1
      replace x0 := cell_old ho2 x0
      replace x1 := cell_old ho2 x1
      replace y0 := cell_old ho2 y0
      generalize wA.drewN nq = wB at *
      clear nq
      have HQ := Lib.hid (Old.trans ho1 ho2)
      clear ho1 ho2
      have hal1 : Old wB (wB.alloc (.cells #[.int .i64 pid, .slice pA pn pc] 53)) := (Old.refl _).alloc _
      have hsrc1 : RdC Tryz.eRc (wB.alloc (.cells #[.int .i64 pid, .slice pA pn pc] 53)) (some ⟨wB.heap.size, 0, none⟩) 1 [p] := Blk.rdC Tryz.eRc (Blk.new wB 53 #[.int .i64 pid, .slice pA pn pc]) (by rw [HP.out.2.2.2.2.2.1])
      have HAl1 := Lib.hid (And.intro hal1 hsrc1)
      clear hal1 hsrc1
      go_wp2_with (at_builtin; go_must (refine wp_appE Tryz.eRc (.tmp 49) (.tmp 54) w.heap.size (.slice A' n' c') _ ((HP.out.1.below HQ.out).1.below HAl1.out.1) (Nat.le_trans (HP.out.2.2.2.1.below HQ.out).old.size HAl1.out.1.size) (some ⟨wB.heap.size, 0, none⟩) 1 1 [p] HAl1.out.2 (fun h => by cases h) (by have := HP.out.2.2.1; have := HP.out.2.2.2.2.2.2.2; simp; omega) rfl rfl rfl rfl ?_); intro A7 n7 c7 w7 hG; have H7 := Lib.hid hG; clear hG)
      go_roundw
      case measure => have := HP.out.2.2.2.2.2.2.2; simp [intOf]; omega
      case rel =>
       refine ⟨i + 1, true, A7, n7, c7, L ++ [p], HP.out.2.2.2.2.2.2.2, by go_num, rfl, rfl, (HP.out.1.below HQ.out).snoc (HP.out.2.2.2.2.1.below HQ.out) HAl1.out.1 H7.out, ?_, by have := HP.out.2.2.1; simp; omega, ((HP.out.2.2.2.1.below HQ.out).below HAl1.out.1).grow ((HP.out.1.below HQ.out).1.below HAl1.out.1) H7.out rfl⟩
       have hh := HP.out.2.1.over HH.out.2.1 HP.out.2.2.2.2.2.2.1
       simp only [if_neg h1] at hh
       rw [recs_snoc]
       exact hh
    | false =>
     by_cases hg : id < pid
     ·have hgd : decide (pid > id) = true := decide_eq_true hg
      have hq : (pid != id) = true := by simp; omega
      have h2 : ¬ pid = id := by omega
      go_wp2_with fail
      go_quiet (fail)
      have ho1 : Old wr (wr.drewN nq) := (Old.refl wr).drewN nq
      replace z0 := cell_old ho1 z0
      replace z1 := cell_old ho1 z1
      replace x0 := cell_old ho1 x0
      replace x1 := cell_old ho1 x1
      replace y0 := cell_old ho1 y0
      generalize wr.drewN nq = wA at *
      clear nq
      have HQ1 := Lib.hid ho1
      clear ho1
      have hal1 : Old wA (wA.alloc (.cells #[.int .i64 id, .slice (some ⟨g, 0, none⟩) n n] 53)) := (Old.refl _).alloc _
      have hsrc1 : RdC Tryz.eRc (wA.alloc (.cells #[.int .i64 id, .slice (some ⟨g, 0, none⟩) n n] 53)) (some ⟨wA.heap.size, 0, none⟩) 1 [⟨id, some ⟨g, 0, none⟩, n, n, bl⟩] := Blk.rdC Tryz.eRc (Blk.new wA 53 #[.int .i64 id, .slice (some ⟨g, 0, none⟩) n n]) rfl
      have HAl1 := Lib.hid (And.intro hal1 hsrc1)
      clear hal1 hsrc1
      go_upto_region 9 with (at_builtin; go_must (refine wp_appE Tryz.eRc (.tmp 37) (.tmp 39) w.heap.size (.slice A' n' c') _ ((HP.out.1.below HQ1.out).1.below HAl1.out.1) (Nat.le_trans (HP.out.2.2.2.1.below HQ1.out).old.size HAl1.out.1.size) (some ⟨wA.heap.size, 0, none⟩) 1 1 [⟨id, some ⟨g, 0, none⟩, n, n, bl⟩] HAl1.out.2 (fun h => by cases h) (by have := HP.out.2.2.1; have := HP.out.2.2.2.2.2.2.2; simp; omega) rfl rfl rfl rfl ?_); intro A7 n7 c7 w7 hG; have H7 := Lib.hid hG; clear hG)
      have hs7 := (HP.out.1.below HQ1.out).snoc (p := ⟨id, some ⟨g, 0, none⟩, n, n, bl⟩) ((HP.out.2.2.2.1.below HQ1.out).row) HAl1.out.1 H7.out
      have ha7 := ((HP.out.2.2.2.1.below HQ1.out).below HAl1.out.1).grow ((HP.out.1.below HQ1.out).1.below HAl1.out.1) H7.out rfl
      have hz7 := HH.out.1.below ha7.old
      obtain ⟨ga2, oa2, hga2, _, zz0, zz1⟩ := hz7.cells (i := i) (p := p) HG.out
      injection hga2 with hga2
      injection hga2 with hg1 hg2 _
      subst hg1 hg2
      rw [HE.out] at zz0
      have hcl : [Value.int .i64 p.id, .slice p.A p.n p.c] = [.int .i64 pid, .slice pA pn pc] := HP.out.2.2.2.2.2.1
      replace hcl := (List.cons.inj (List.cons.inj hcl).2).1
      rw [hcl] at zz1
      replace z0 := zz0
      replace z1 := zz1
      replace y0 := (ha7.box.cell 0).trans HC.out.2
      have HS := Lib.hid (And.intro hs7 (And.intro ha7 (HP.out.2.2.2.2.1.below HQ1.out)))
      have hpo7 : Own w7 0 (.slice p.A p.n p.c) p.l := (HH.out.1.2 p (List.mem_of_getElem? HG.out)).below ha7.old
      have HPO := Lib.hid hpo7
      clear hs7 ha7 hz7 zz0 zz1 hcl hpo7 x0 x1
      go_wp2_with fail
      go_quiet (fail)
      have ho2 : Old w7 (w7.drewN nq) := (Old.refl w7).drewN nq
      replace z0 := cell_old ho2 z0
      replace z1 := cell_old ho2 z1
      replace y0 := cell_old ho2 y0
      generalize w7.drewN nq = wC at *
      clear nq
      have HQ2 := Lib.hid ho2
      clear ho2
      have hal2 : Old wC (wC.alloc (.cells #[.int .i64 pid, .slice pA pn pc] 53)) := (Old.refl _).alloc _
      have hsrc2 : RdC Tryz.eRc (wC.alloc (.cells #[.int .i64 pid, .slice pA pn pc] 53)) (some ⟨wC.heap.size, 0, none⟩) 1 [p] := Blk.rdC Tryz.eRc (Blk.new wC 53 #[.int .i64 pid, .slice pA pn pc]) (by rw [HP.out.2.2.2.2.2.1])
      have HAl2 := Lib.hid (And.intro hal2 hsrc2)
      clear hal2 hsrc2
      go_wp2_with (at_builtin; go_must (refine wp_appE Tryz.eRc (.tmp 49) (.tmp 54) w.heap.size (.slice A7 n7 c7) _ ((HS.out.1.below HQ2.out).1.below HAl2.out.1) (Nat.le_trans (HS.out.2.1.below HQ2.out).old.size HAl2.out.1.size) (some ⟨wC.heap.size, 0, none⟩) 1 1 [p] HAl2.out.2 (fun h => by cases h) (by have := HP.out.2.2.1; have := HP.out.2.2.2.2.2.2.2; simp; omega) rfl rfl rfl rfl ?_); intro A8 n8 c8 w8 hG; have H8 := Lib.hid hG; clear hG)
      go_roundw
      case measure => have := HP.out.2.2.2.2.2.2.2; simp [intOf]; omega
      case rel =>
       refine ⟨i + 1, true, A8, n8, c8, L ++ [⟨id, some ⟨g, 0, none⟩, n, n, bl⟩] ++ [p], HP.out.2.2.2.2.2.2.2, by go_num, rfl, rfl, (HS.out.1.below HQ2.out).snoc (HPO.out.below HQ2.out) HAl2.out.1 H8.out, ?_, by have := HP.out.2.2.1; simp; omega, ((HS.out.2.1.below HQ2.out).below HAl2.out.1).grow ((HS.out.1.below HQ2.out).1.below HAl2.out.1) H8.out rfl⟩
       have hh := HP.out.2.1.ins HH.out.2.1 HP.out.2.2.2.2.2.2.1 (by show id < p.id; rw [HE.out]; exact hg)
       rw [recs_snoc, recs_snoc]
       exact hh
     ·have hgd : decide (pid > id) = false := decide_eq_false hg
      have hle : p.id ≤ id := by rw [HE.out]; omega
      have HL := Lib.hid hle
      clear hle
      by_cases h1 : pid = id
      ·subst h1
       have h1 : p.id = pid := HE.out
       go_wp2_with fail
       go_quiet (fail)
       have ho1 : Old wr (wr.drewN nq) := (Old.refl wr).drewN nq
       replace z0 := cell_old ho1 z0
       replace z1 := cell_old ho1 z1
       replace x0 := cell_old ho1 x0
       replace x1 := cell_old ho1 x1
       replace y0 := cell_old ho1 y0
       generalize wr.drewN nq = wA at *
       clear nq
       go_wp2_with fail
       go_quiet (fail)
       have ho2 : Old wA (wA.drewN nq) := (Old.refl wA).drewN nq
       replace z0 := cell_old ho2 z0
       replace z1 := cell_old ho2 z1
       replace x0 := cell_old ho2 x0
       replace x1 := cell_old ho2 x1
       replace y0 := cell_old ho2 y0
       generalize wA.drewN nq = wB at *
       clear nq
       have HQ := Lib.hid (Old.trans ho1 ho2)
       clear ho1 ho2
       go_wp2_with fail
       go_roundw
       case measure => have := HP.out.2.2.2.2.2.2.2; simp [intOf]; omega
       case rel =>
        refine ⟨i + 1, false, A', n', c', L, HP.out.2.2.2.2.2.2.2, by go_num, rfl, rfl, HP.out.1.below HQ.out, ?_, by have := HP.out.2.2.1; omega, HP.out.2.2.2.1.below HQ.out⟩
        have hh := HP.out.2.1.keep HP.out.2.2.2.2.2.2.1 HL.out
        simp only [if_pos h1, List.append_nil] at hh
        exact hh
      ·have hq : (pid != id) = true := by simp [h1]
       have h2 := h1
       rw [← HE.out] at h1
       go_wp2_with fail
       go_quiet (fail)
       have ho1 : Old wr (wr.drewN nq) := (Old.refl wr).drewN nq
       replace z0 := cell_old ho1 z0
       replace z1 := cell_old ho1 z1
       replace x0 := cell_old ho1 x0
       replace x1 := cell_old ho1 x1
       replace y0 := cell_old ho1 y0
       generalize wr.drewN nq = wA at *
       clear nq
       go_wp2_with fail
       go_quiet (fail)
       have ho2 : Old wA (wA.drewN nq) := (Old.refl wA).drewN nq
       replace z0 := cell_old ho2 z0
       replace z1 := cell_old ho2 z1
       replace x0 := cell_old ho2 x0
       replace x1 := cell_old ho2 x1
       replace y0 := cell_old ho2 y0
       generalize wA.drewN nq = wB at *
       clear nq
       have HQ := Lib.hid (Old.trans ho1 ho2)
       clear ho1 ho2
       have hal1 : Old wB (wB.alloc (.cells #[.int .i64 pid, .slice pA pn pc] 53)) := (Old.refl _).alloc _
       have hsrc1 : RdC Tryz.eRc (wB.alloc (.cells #[.int .i64 pid, .slice pA pn pc] 53)) (some ⟨wB.heap.size, 0, none⟩) 1 [p] := Blk.rdC Tryz.eRc (Blk.new wB 53 #[.int .i64 pid, .slice pA pn pc]) (by rw [HP.out.2.2.2.2.2.1])
       have HAl1 := Lib.hid (And.intro hal1 hsrc1)
       clear hal1 hsrc1
       go_wp2_with (at_builtin; go_must (refine wp_appE Tryz.eRc (.tmp 49) (.tmp 54) w.heap.size (.slice A' n' c') _ ((HP.out.1.below HQ.out).1.below HAl1.out.1) (Nat.le_trans (HP.out.2.2.2.1.below HQ.out).old.size HAl1.out.1.size) (some ⟨wB.heap.size, 0, none⟩) 1 1 [p] HAl1.out.2 (fun h => by cases h) (by have := HP.out.2.2.1; have := HP.out.2.2.2.2.2.2.2; simp; omega) rfl rfl rfl rfl ?_); intro A7 n7 c7 w7 hG; have H7 := Lib.hid hG; clear hG)
       go_roundw
       case measure => have := HP.out.2.2.2.2.2.2.2; simp [intOf]; omega
       case rel =>
        refine ⟨i + 1, false, A7, n7, c7, L ++ [p], HP.out.2.2.2.2.2.2.2, by go_num, rfl, rfl, (HP.out.1.below HQ.out).snoc (HP.out.2.2.2.2.1.below HQ.out) HAl1.out.1 H7.out, ?_, by have := HP.out.2.2.1; simp; omega, ((HP.out.2.2.2.1.below HQ.out).below HAl1.out.1).grow ((HP.out.1.below HQ.out).1.below HAl1.out.1) H7.out rfl⟩
        have hh := HP.out.2.1.keep HP.out.2.2.2.2.2.2.1 HL.out
        simp only [if_neg h1] at hh
        rw [recs_snoc]
        exact hh
   ·obtain rfl : i = m := by omega
    have hii : ¬ (i : Int) < i := by omega
    have hrl : (recs rs).length = i := by rw [recs_len]; exact HH.out.2.2.1.symm
    have x0 := hS.rc.cell 0
    have x1 := hS.rc.cell 1
    simp only [List.getElem?_toArray, List.getElem?_cons_succ, List.getElem?_cons_zero] at x0 x1
    have hfi := ChgI.fin (done := dn) (L := recs L) HH.out.2.1 (by rw [hrl]; exact hC)
    have HP := Lib.hid (And.intro hL (And.intro hLl (And.intro hS hfi)))
    clear hL hC hLl hS hrl hfi hi
    cases dn with
    | true =>
     go_wp2_with fail
     rw [← HTG.out]
     exact ⟨_, _, _, L, rfl, HP.out.1, HP.out.2.2.2, HP.out.2.2.1.old⟩
    | false =>
     have hal1 : Old wr (wr.alloc (.cells #[.int .i64 id, .slice (some ⟨g, 0, none⟩) n n] 53)) := (Old.refl _).alloc _
     have hsrc1 : RdC Tryz.eRc (wr.alloc (.cells #[.int .i64 id, .slice (some ⟨g, 0, none⟩) n n] 53)) (some ⟨wr.heap.size, 0, none⟩) 1 [⟨id, some ⟨g, 0, none⟩, n, n, bl⟩] := Blk.rdC Tryz.eRc (Blk.new wr 53 #[.int .i64 id, .slice (some ⟨g, 0, none⟩) n n]) rfl
     have HAl1 := Lib.hid (And.intro hal1 hsrc1)
     clear hal1 hsrc1
     go_wp2_with (at_builtin; go_must (refine wp_appE Tryz.eRc (.tmp 58) (.tmp 60) w.heap.size (.slice A' n' c') _ (HP.out.1.1.below HAl1.out.1) (Nat.le_trans HP.out.2.2.1.old.size HAl1.out.1.size) (some ⟨wr.heap.size, 0, none⟩) 1 1 [⟨id, some ⟨g, 0, none⟩, n, n, bl⟩] HAl1.out.2 (fun h => by cases h) (by have := HP.out.2.1; simp; omega) rfl rfl rfl rfl ?_); intro A7 n7 c7 w7 hG; have H7 := Lib.hid hG; clear hG)
     rw [← HTG.out]
     refine ⟨_, _, _, L ++ [⟨id, some ⟨g, 0, none⟩, n, n, bl⟩], rfl, HP.out.1.snoc HP.out.2.2.1.row HAl1.out.1 H7.out, ?_, ((HP.out.2.2.1.below HAl1.out.1).grow (HP.out.1.1.below HAl1.out.1) H7.out rfl).old⟩
     rw [recs_snoc]
     exact HP.out.2.2.2
structure IV where
 id : Int
 n : Int
 drop : Bool
 A : Option Addr
 m : Nat
 c : Nat
 l : List UInt8
def Tryz.eIC : ETy IV where
 t := 101
 ts := 61
 sz := 4
 bytes := 48
 z := .agg #[.int .i64 0, .int .i64 0, .bool false, .slice none 0 0]
 cells := fun p => [.int .i64 p.id, .int .i64 p.n, .bool p.drop, .slice p.A p.m p.c]
 len := fun _ => rfl
 one := fun x u hu => by simp at hu; rcases hu with rfl | rfl | rfl | rfl <;> rfl
 pos := by decide
 zsz := rfl
 small := by decide
 und := Tryz.underlying61
 info := by kernel_rfl
structure CsAt (W : World) (A : Option Addr) (m : Nat) (cs : List IV) : Prop where
 rd : RdC Tryz.eIC W A m cs
 each : ∀ x ∈ cs, RdE W x.A x.m x.c x.l
 wf : ∀ x ∈ cs, wfI x.id
theorem CsAt.below {w w' : World} {A : Option Addr} {m : Nat} {cs : List IV} (h : CsAt w A m cs) (hb : Old w w') : CsAt w' A m cs := ⟨h.rd.below hb, fun p hp => (h.each p hp).below hb, h.wf⟩
def IV.nn (x : IV) : Nat := if x.n < 0 ∨ 20000 < x.n then 50 else x.n.toNat
theorem IV.nn_le (x : IV) : x.nn ≤ 20000 := by unfold IV.nn; split <;> omega
def IV.ch (x : IV) : Int × Bool × List UInt8 := (x.id, x.drop, full x.l x.nn)
def PC.ch (p : PC) : Int × Bool × List UInt8 := (p.id, p.drop, p.l)
theorem full_len (l : List UInt8) (n : Nat) (h : n ≤ 20000) : (full l n).length = n := by
 unfold full
 rw [if_neg (by omega)]
 split
 ·rw [zs_len]; rfl
 ·rw [fullTo_len]; rfl
def ChOwn (w : World) (base : Nat) (v : Value) (ps : List PC) : Prop := OwnE Tryz.eC w base v ps ∧ ∀ p ∈ ps, Own w 0 (.slice p.A p.n p.c) p.l ∧ wfI p.id
theorem ChOwn.at_ {w : World} {base : Nat} {A : Option Addr} {n c : Nat} {ps : List PC} (h : ChOwn w base (.slice A n c) ps) : ChsAt w A n ps := ⟨h.1.rd, fun p hp => (h.2 p hp).1.rd, fun p hp => (h.2 p hp).2⟩
theorem ChOwn.below {w w' : World} {base : Nat} {v : Value} {ps : List PC} (h : ChOwn w base v ps) (hb : Old w w') : ChOwn w' base v ps := ⟨h.1.below hb, fun p hp => ⟨(h.2 p hp).1.below hb, (h.2 p hp).2⟩⟩
theorem ChOwn.snoc {w w1 w' : World} {base : Nat} {A A' : Option Addr} {n c n' c' : Nat} {ps : List PC} {p : PC} (h : ChOwn w base (.slice A n c) ps) (hp : Own w 0 (.slice p.A p.n p.c) p.l) (hw : wfI p.id) (h1 : Old w w1)
  (hG : GrewE Tryz.eC base w1 w' (.slice A n c) A' n' c' (ps ++ [p])) : ChOwn w' base (.slice A' n' c') (ps ++ [p]) := by
 have hown : ∀ q : PC, Own w 0 (.slice q.A q.n q.c) q.l → Own w' 0 (.slice q.A q.n q.c) q.l := fun q hq => by
  have hq2 := hq.below h1
  refine hq2.keep fun g' hg' => ?_
  refine hG.grown.block g' (hq2.lt hg').2 (fun e => ?_)
  obtain ⟨cs, hbk⟩ := OwnE.blk (h.1.below h1) (g := g') e.symm
  exact hq2.ne hbk (by decide) hg'
 refine ⟨hG.own, fun r hr => ?_⟩
 rcases List.mem_append.1 hr with hr | hr
 ·exact ⟨hown r (h.2 r hr).1, (h.2 r hr).2⟩
 ·rw [List.mem_singleton] at hr
  subst hr
  exact ⟨hown _ hp, hw⟩
theorem sload_put (M : List SRec) (x : Int) (b : List UInt8) : sload (sput M x b) ≤ sload M + (b.length + 8) := by
 induction M with
 | nil => simp [sput, sload]
 | cons p M ih =>
  unfold sput
  split
  ·rw [sload_cons, sload_cons]; omega
  ·split
   ·rw [sload_cons, sload_cons]; simp only; omega
   ·rw [sload_cons, sload_cons]; simp only; omega
theorem sload_del (M : List SRec) (x : Int) : sload (sdel M x) ≤ sload M := by
 induction M with
 | nil => simp [sdel, sload]
 | cons p M ih =>
  unfold sdel at ih ⊢
  rw [List.filter_cons]
  split
  ·rw [sload_cons, sload_cons]; omega
  ·rw [sload_cons]; omega
theorem sload_chg (M : List SRec) (x : Int) (d : Bool) (b : List UInt8) : sload (schg M x d b) ≤ sload M + (b.length + 8) := by
 unfold schg
 split
 ·have := sload_del M x; omega
 ·exact sload_put M x b
theorem sload_chgs (N : Nat) : ∀ (cs : List PC) (M : List SRec), (∀ p ∈ cs, p.l.length ≤ N) → sload (schgs M cs) ≤ sload M + cs.length * (N + 8)
 | [], M, _ => by simp [schgs]
 | p :: cs, M, h => by
  have ih := sload_chgs N cs (schg M p.id p.drop p.l) (fun q hq => h q (List.mem_cons_of_mem _ hq))
  have h1 := sload_chg M p.id p.drop p.l
  have h2 := h p List.mem_cons_self
  show sload (schgs (schg M p.id p.drop p.l) cs) ≤ _
  rw [List.length_cons, Nat.succ_mul]
  omega
theorem num_load (M : List SRec) : 8 * M.length ≤ sload M := by
 induction M with
 | nil => simp [sload]
 | cons p M ih => rw [sload_cons, List.length_cons]; omega
theorem schgs_snoc (M : List SRec) (ps : List PC) (p : PC) : schgs M (ps ++ [p]) = schg (schgs M ps) p.id p.drop p.l := by
 unfold schgs
 rw [List.foldl_append]
 rfl
theorem okC_snoc (ps : List PC) (p : PC) : (ps ++ [p]).all okC = (ps.all okC && okC p) := by rw [List.all_append]; simp
def rvC (ps : List PC) : Int := if ps.all okC then 0 else 7
def comV (M : List SRec) (ps : List PC) (room : Nat) : Int := if ps.all okC then (if room < sload (schgs M ps) then 49 else 0) else 7
def ComL (w : World) (rs : List RcV) (cs : List IV) (room : Nat) (e : Ending) (w' : World) : Prop :=
 ∃ A1 n1 c1 ps A2 n2 c2 rs', e = .returned (.tuple #[.slice A1 n1 c1, .slice A2 n2 c2, .int .i64 (comV (recs rs) ps room)]) ∧ ChOwn w' w.heap.size (.slice A1 n1 c1) ps ∧ ps.map PC.ch = (cs.take 12).map IV.ch ∧ RcAt w' 0 (.slice A2 n2 c2) rs' ∧
  recs rs' = (if comV (recs rs) ps room = 0 then schgs (recs rs) ps else recs rs) ∧ Old w w'
structure CoI (w wl : World) (rs : List RcV) (cs : List IV) (i : Nat) (A1 : Option Addr) (n1 c1 : Nat) (ps : List PC) (Ax : Option Addr) (nx cx : Nat) (rx : List RcV) : Prop where
 own : ChOwn wl w.heap.size (.slice A1 n1 c1) ps
 map : ps.map PC.ch = (cs.take i).map IV.ch
 mod : RcAt wl 0 (.slice Ax nx cx) rx
 is : recs rx = schgs (recs rs) ps
 old : Old w wl
theorem CoI.num {w wl : World} {rs : List RcV} {cs : List IV} {i n1 c1 nx cx : Nat} {A1 Ax : Option Addr} {ps : List PC} {rx : List RcV} (h : CoI w wl rs cs i A1 n1 c1 ps Ax nx cx rx) : ps.length ≤ i := by
 have := congrArg List.length h.map
 rw [List.length_map, List.length_map, List.length_take] at this
 omega
theorem CoI.len {w wl : World} {rs : List RcV} {cs : List IV} {i n1 c1 nx cx : Nat} {A1 Ax : Option Addr} {ps : List PC} {rx : List RcV} (h : CoI w wl rs cs i A1 n1 c1 ps Ax nx cx rx) : ∀ p ∈ ps, p.l.length ≤ 20000 := fun p hp => by
 have h1 : PC.ch p ∈ ps.map PC.ch := List.mem_map_of_mem hp
 rw [h.map] at h1
 obtain ⟨x, _, hx⟩ := List.mem_map.1 h1
 have h2 : full x.l x.nn = p.l := congrArg (fun t => t.2.2) hx
 rw [← h2, full_len _ _ x.nn_le]
 exact x.nn_le
set_option maxHeartbeats 8000000 in
theorem lcommit_any (A C : Option Addr) (m c mc cc room : Nat) (rs : List RcV) (cs : List IV) (w : World) (h : RcAt w 0 (.slice A m c) rs) (hR : Rising (recs rs)) (hl : sload (recs rs) ≤ 20000) (hC : CsAt w C mc cs) (hmc : (mc : Int) ≤ 9223372036854775807) (hr : room ≤ 20000) :
  Calls Tryz.prog 28 #[.slice A m c, .slice C mc cc, .int .i64 (room : Int)] w (ComL w rs cs room) := by
 have hml := hC.rd.1
 have HH := Lib.hid (And.intro h (And.intro hR (And.intro hl (And.intro hC (And.intro hml hr)))))
 obtain ⟨TG, hTG⟩ : ∃ TG : Ending → World → Prop, ComL w rs cs room = TG := ⟨_, rfl⟩
 rw [hTG]
 have HTG := Lib.hid hTG
 clear h hR hl hC hml hTG
 go_enter Tryz.func28, Tryz.ntmps28
 go_wp2_with fail
 go_loopw [9, 10, 11, 12] (fun lv xv rv iv wl => ∃ (i : Nat) (A1 : Option Addr) (n1 c1 : Nat) (ps : List PC) (Ax : Option Addr) (nx cx : Nat) (rx : List RcV), i ≤ mc ∧ i ≤ 12 ∧ lv = .slice A1 n1 c1 ∧ xv = .slice Ax nx cx ∧ rv = .int .i64 (rvC ps) ∧ iv = .int .i64 (i : Int) ∧ CoI w wl rs cs i A1 n1 c1 ps Ax nx cx rx) (fun _ _ _ iv _ => mc - (intOf iv).toNat)
 case atStart => exact ⟨0, none, 0, 0, [], A, m, c, rs, by omega, by omega, rfl, rfl, rfl, rfl, ⟨⟨OwnE.nil _ _, fun p hp => by cases hp⟩, rfl, HH.out.1, rfl, Old.refl _⟩⟩
 case round =>
  obtain ⟨i, A1, n1, c1, ps, Ax, nx, cx, rx, hi, hi12, rfl, rfl, rfl, rfl, hI⟩ := hrel
  by_cases hlt : i < mc ∧ i < 12
  ·obtain ⟨hlt, hlt2⟩ := hlt
   have hii : (i : Int) < mc := by omega
   have hid : decide ((i : Int) < (mc : Int)) = true := decide_eq_true hii
   have hii2 : (i : Int) < 12 := by omega
   have hid2 : decide ((i : Int) < 12) = true := decide_eq_true hii2
   obtain ⟨x, hx⟩ : ∃ x, cs[i]? = some x := ⟨_, List.getElem?_eq_getElem (by rw [HH.out.2.2.2.2.1]; exact hlt)⟩
   obtain ⟨ga, oa, rfl, hga, hcl⟩ := (HH.out.2.2.2.1.rd.below hI.old).at_ hx
   have c0 := hcl 0 (by decide)
   have c1' := hcl 1 (by decide)
   have c2 := hcl 2 (by decide)
   have c3 := hcl 3 (by decide)
   have hxe := (HH.out.2.2.2.1.each x (List.mem_of_getElem? hx)).below hI.old
   have hxw := HH.out.2.2.2.1.wf x (List.mem_of_getElem? hx)
   obtain ⟨nn, hnn⟩ : ∃ nn, x.nn = nn := ⟨_, rfl⟩
   have hnd := x.nn_le
   rw [hnn] at hnd
   have hch : IV.ch x = (x.id, x.drop, full x.l nn) := by unfold IV.ch; rw [hnn]
   obtain ⟨xi, xn, xd, xA, xm, xc, xl⟩ := x
   have y0 : wr.cell? ⟨ga, oa + i * 4, none⟩ = some (.int .i64 xi) := c0
   have y1 : wr.cell? ⟨ga, oa + i * 4 + 1, none⟩ = some (.int .i64 xn) := c1'
   have y2 : wr.cell? ⟨ga, oa + i * 4 + 2, none⟩ = some (.bool xd) := c2
   have y3 : wr.cell? ⟨ga, oa + i * 4 + 3, none⟩ = some (.slice xA xm xc) := c3
   have hnn2 : (if xn < 0 ∨ 20000 < xn then 50 else xn.toNat) = nn := hnn
   simp only at hch hxe hxw
   have HI := Lib.hid (And.intro hI (And.intro hx (And.intro hxe (And.intro hxw (And.intro hch (And.intro hnn2 (And.intro hnd (And.intro hlt hlt2))))))))
   clear hI hx hxe hxw hch hnn hnn2 hnd hlt hlt2 c0 c1' c2 c3 hcl hga
   obtain ⟨w1, hw1⟩ : ∃ w1, wr.alloc (.cells #[.int .i64 xi, .int .i64 xn, .bool xd, .slice xA xm xc] 101) = w1 := ⟨_, rfl⟩
   have hb1 : Blk w1 wr.heap.size 101 #[.int .i64 xi, .int .i64 xn, .bool xd, .slice xA xm xc] := by rw [← hw1]; exact Blk.new _ _ _
   have hO1 : Old wr w1 := by rw [← hw1]; exact (Old.refl _).alloc _
   obtain ⟨X, hX⟩ : ∃ X, wr.heap.size = X := ⟨_, rfl⟩
   rw [hX] at hb1
   have HB1 := Lib.hid (And.intro hb1 (And.intro hO1 (And.intro hX hw1)))
   clear hb1 hO1 hw1 hX
   go_upto_region 8 with fail
   clear y0 y1 y2 y3
   rw [HB1.out.2.2.2, HB1.out.2.2.1]
   go_cut [36] from 29 to 37 (fun v wx => v = .bool (decide (xn < 0 ∨ 20000 < xn)) ∧ w1 = wx)
   case first =>
    have c1 := HB1.out.1.cell 1
    simp only [List.getElem?_toArray, List.getElem?_cons_succ, List.getElem?_cons_zero] at c1
    by_cases h0 : xn < 0
    ·have d0 : decide (xn < 0) = true := decide_eq_true h0
     have HD := Lib.hid (decide_eq_true (p := xn < 0 ∨ 20000 < xn) (.inl h0))
     go_wp2_with fail
     go_meet
     case rel => exact ⟨by rw [HD.out], rfl⟩
    have d0 : decide (xn < 0) = false := decide_eq_false h0
    by_cases h1 : 20000 < xn
    ·have d1 : decide (xn > 20000) = true := decide_eq_true h1
     have HD := Lib.hid (decide_eq_true (p := xn < 0 ∨ 20000 < xn) (.inr h1))
     go_wp2_with fail
     go_meet
     case rel => exact ⟨by rw [HD.out], rfl⟩
    ·have d1 : decide (xn > 20000) = false := decide_eq_false h1
     have HD := Lib.hid (decide_eq_false (p := xn < 0 ∨ 20000 < xn) (by omega))
     go_wp2_with fail
     go_meet
     case rel => exact ⟨by rw [HD.out], rfl⟩
   case rest =>
    obtain ⟨rfl, rfl⟩ := hcut
    try go_at_K
    have hnn2 := HI.out.2.2.2.2.2.1
    have hst : nn = 50 → Blk (w1.setCell ⟨X, 1, none⟩ (.int .i64 50)) X 101 #[.int .i64 xi, .int .i64 (nn : Int), .bool xd, .slice xA xm xc] ∧ Old wr (w1.setCell ⟨X, 1, none⟩ (.int .i64 50)) := fun e => by
     refine ⟨?_, below_turn HB1.out.2.1 ((Turn.refl [X] w1).setCell (.inl (by simp)) _) (by intro u hu; simp at hu; rw [hu, HB1.out.2.2.1]; exact Nat.le_refl _) HB1.out.2.1.size⟩
     have := HB1.out.1.set_ 1 (.int .i64 50)
     rw [e]
     simpa using this
    have HST := Lib.hid (And.intro hst hnn2)
    clear hst hnn2
    go_upto_if 36 with fail
    go_cut [36] from 37 to 38 (fun v wx => Blk wx X 101 #[.int .i64 xi, .int .i64 (nn : Int), .bool xd, .slice xA xm xc] ∧ Old wr wx)
    case first =>
     have c1 := HB1.out.1.cell 1
     have f1 := HB1.out.1.frozen 1
     simp only [List.getElem?_toArray, List.getElem?_cons_succ, List.getElem?_cons_zero] at c1
     obtain ⟨hst, hnn2⟩ := HST.out
     by_cases h0 : xn < 0 ∨ 20000 < xn
     ·have d0 : decide (xn < 0 ∨ 20000 < xn) = true := decide_eq_true h0
      rw [if_pos h0] at hnn2
      have HS := Lib.hid (hst hnn2.symm)
      rw [d0]
      clear hst hnn2 h0 d0
      go_wp2_with fail
      go_meet
      case rel => exact HS.out
     ·have d0 : decide (xn < 0 ∨ 20000 < xn) = false := decide_eq_false h0
      rw [if_neg h0] at hnn2
      have hxnn : xn = (nn : Int) := by omega
      have HS := Lib.hid hxnn
      rw [d0]
      clear hst hnn2 hxnn h0 d0
      go_wp2_with fail
      go_meet
      case rel => exact ⟨by rw [← HS.out]; exact HB1.out.1, HB1.out.2.1⟩
    case rest =>
     obtain ⟨hbx, hOx⟩ := hcut
     obtain ⟨T, hT⟩ : ∃ T, (Value.slice A1 n1 c1).ownBlock.toList = T := ⟨_, rfl⟩
     have hI2 := HI.out.1
     have hTX : ∀ b ∈ T, w.heap.size ≤ b := fun b hb => by
      rw [← hT, Option.mem_toList] at hb
      exact (hI2.own.1.lt hb).1
     have hXT : X ∉ T := fun hm => by
      rw [← hT, Option.mem_toList] at hm
      have h1 := (hI2.own.1.lt hm).2
      have h2 := HB1.out.2.2.1
      omega
     have hxb := hbx
     have HX := Lib.hid (And.intro (HI.out.2.2.1.below hOx) (And.intro (hI2.own.below hOx) (And.intro (Old.trans hI2.old hOx) (And.intro hbx (And.intro hT (And.intro hXT (And.intro HI.out.2.2.2.1 (And.intro (show ps.length ≤ 12 from Nat.le_trans hI2.num hi12) HI.out.2.2.2.2.2.2.1))))))))
     have HX2 := Lib.hid (And.intro hTX (hI2.mod.below hOx))
     clear hbx hOx hT hI2 hTX hXT hxb
     try go_at_K
     go_upto_region 10 with fail
     refine region_turnV T (by kernel_rfl) (fun wd hOd hHeld hSz => ?_)
     have HSz := Lib.hid hSz
     clear hSz
     refine tkS 0 hHeld ?_
     refine tkS 1 hHeld ?_
     refine tkS 2 hHeld ?_ (hy := by intro wq hSw; have bq := HX.out.2.2.2.1.turn hSw HX.out.2.2.2.2.2.1; have z0 := bq.cell 0; have z1 := bq.cell 1; have z2 := bq.cell 2; have z3 := bq.cell 3; simp only [List.getElem?_toArray, List.getElem?_cons_succ, List.getElem?_cons_zero] at z0 z1 z2 z3; clear bq; clear hSw; go_simp; try with_reducible rfl)
     refine tkS 3 hHeld ?_
     refine tkS 4 hHeld ?_ (hy := by intro wq hSw; have bq := HX.out.2.2.2.1.turn hSw HX.out.2.2.2.2.2.1; have z0 := bq.cell 0; have z1 := bq.cell 1; have z2 := bq.cell 2; have z3 := bq.cell 3; simp only [List.getElem?_toArray, List.getElem?_cons_succ, List.getElem?_cons_zero] at z0 z1 z2 z3; clear bq; clear hSw; go_simp; try with_reducible rfl)
     refine tkS 5 hHeld ?_
     refine tkS 6 hHeld ?_ (hy := by intro wq hSw; have bq := HX.out.2.2.2.1.turn hSw HX.out.2.2.2.2.2.1; have z0 := bq.cell 0; have z1 := bq.cell 1; have z2 := bq.cell 2; have z3 := bq.cell 3; simp only [List.getElem?_toArray, List.getElem?_cons_succ, List.getElem?_cons_zero] at z0 z1 z2 z3; clear bq; clear hSw; go_simp; try with_reducible rfl)
     refine tkS 7 hHeld ?_
     refine tkS 8 hHeld ?_ (hy := by intro wq hSw; have bq := HX.out.2.2.2.1.turn hSw HX.out.2.2.2.2.2.1; have z0 := bq.cell 0; have z1 := bq.cell 1; have z2 := bq.cell 2; have z3 := bq.cell 3; simp only [List.getElem?_toArray, List.getElem?_cons_succ, List.getElem?_cons_zero] at z0 z1 z2 z3; clear bq; clear hSw; go_simp; try with_reducible rfl)
     refine rdL 9 (fun K hK => ?_)
     go_simp
     refine (full_e xA xm xc nn xl wd (HX.out.1.below hOd) (by have := HX.out.2.2.2.2.2.2.2.2; omega)).mono ?_
     rintro e w2 ⟨g2, rfl, hO2, hb2⟩
     have hT2 := hHeld.trans (Turn.of_below T hb2) (fun x hx => .inl hx)
     have hP2 := (HX.out.2.1.below hOd).below hb2
     have hO2' := hO2.mono (Nat.zero_le _)
     have hW2 : Old w w2 := Old.trans (Old.trans HX.out.2.2.1 hOd) hb2
     clear hO2 hb2
     refine hK.out _ _ hT2 (fun hHeld => ?_)
     clear hK K
     try simp only [Act.put, sA, sB, sC]
     refine tkS 10 hHeld ?_
     refine rdL 11 (fun K hK => ?_)
     go_simp
     refine hK.out _ _ (hHeld.alloc _) (fun hHeld => ?_)
     clear hK K
     try simp only [Act.put, sA, sB, sC]
     refine rdL 12 (fun K hK => ?_)
     refine step_appE Tryz.eC (.tmp 38) (.tmp 49) w.heap.size (.slice A1 n1 c1) ps (hP2.1.below ((Old.refl w2).alloc _)) (by have := hW2.size; simp; omega) (some ⟨w2.heap.size, 0, none⟩) 1 1 [⟨xi, xd, some ⟨g2, 0, none⟩, nn, nn, full xl nn⟩] (Blk.rdC Tryz.eC (Blk.new _ _ _) rfl) (fun h => by cases h) (by have := HX.out.2.2.2.2.2.2.2.1; simp; omega) rfl rfl rfl rfl (fun A9 n9 c9 w9 hG => ?_)
     have hT9 : Turn T wc w9 := hHeld.grown hG.grown (fun k hk => .inl (by rw [← HX.out.2.2.2.2.1, Option.mem_toList]; exact hk))
     have hS9 := hP2.snoc (p := ⟨xi, xd, some ⟨g2, 0, none⟩, nn, nn, full xl nn⟩) hO2' HX.out.2.2.2.2.2.2.1 ((Old.refl w2).alloc _) hG
     have hW9 : Old w w9 := Below.trans (Old.alloc hW2 _) hG.below
     have H9 := Lib.hid (And.intro hS9 (And.intro hT9 hW9))
     clear hG hT9 hS9 hW9
     refine hK.out _ _ H9.out.2.1 (fun hHeld => ?_)
     clear hK K
     try simp only [Act.put, sA, sB, sC]
     refine tkS 13 hHeld ?_
     refine wpAnyH_done (by kernel_rfl) ?_ _
     refine NoPanic.normal ?_
     try simp only [Exit.then]
     try go_at_K
     have hb9 := HX.out.2.2.2.1.turn H9.out.2.1 HX.out.2.2.2.2.2.1
     have hT := HX.out.2.2.2.2.1
     have hm9 : RcAt w9 0 (.slice Ax nx cx) rx := HX2.out.2.turn H9.out.2.1 (fun g hg => by
      rw [← hT, Option.mem_toList] at hg
      obtain ⟨cs', hbk⟩ := HX.out.2.1.1.blk hg
      exact .inr ⟨_, _, hbk, by decide, by decide⟩)
     have he9 := (HH.out.2.2.2.1.each _ (List.mem_of_getElem? HI.out.2.1)).below H9.out.2.2
     obtain ⟨okp, hokp⟩ : ∃ b, okC ⟨xi, xd, some ⟨g2, 0, none⟩, nn, nn, full xl nn⟩ = b := ⟨_, rfl⟩
     have hfl := full_len xl nn HX.out.2.2.2.2.2.2.2.2
     have hokv : okp = (decide (1 ≤ xi) && decide (xi ≤ 65535) && (xd || decide (nn ≤ 16384))) := by
      rw [← hokp]
      unfold okC
      rw [hfl]
     have HY := Lib.hid (And.intro hb9 (And.intro hm9 (And.intro he9 (And.intro hokp hokv))))
     clear hb9 hT hm9 he9 hokp hfl hokv hP2 hO2' hW2 hT2 hHeld
     go_upto_region 11 with fail
     go_cut [68] from 51 to 69 (fun v wx => v = .bool (!okp) ∧ w9 = wx)
     case first =>
      have z0 := HY.out.1.cell 0
      have z1 := HY.out.1.cell 1
      have z2 := HY.out.1.cell 2
      simp only [List.getElem?_toArray, List.getElem?_cons_succ, List.getElem?_cons_zero] at z0 z1 z2
      have hokv := HY.out.2.2.2.2
      by_cases q1 : xi < 1
      ·have q2 : decide (xi < 1) = true := decide_eq_true q1
       have HD := Lib.hid (show okp = false by rw [hokv, decide_eq_false (by omega)]; rfl)
       clear hokv
       go_wp2_with fail
       go_meet
       case rel => exact ⟨by rw [HD.out]; rfl, rfl⟩
      have q2 : decide (xi < 1) = false := decide_eq_false q1
      by_cases q3 : 65535 < xi
      ·have q4 : decide (xi > 65535) = true := decide_eq_true q3
       have HD := Lib.hid (show okp = false by rw [hokv, decide_eq_false (show ¬ xi ≤ 65535 by omega), Bool.and_false]; rfl)
       clear hokv
       go_wp2_with fail
       go_meet
       case rel => exact ⟨by rw [HD.out]; rfl, rfl⟩
      have q4 : decide (xi > 65535) = false := decide_eq_false q3
      rw [decide_eq_true (show 1 ≤ xi by omega), decide_eq_true (show xi ≤ 65535 by omega), Bool.true_and, Bool.true_and] at hokv
      cases xd with
      | true =>
       have HD := Lib.hid (show okp = true by rw [hokv]; rfl)
       clear hokv
       go_wp2_with fail
       go_meet
       case rel => exact ⟨by rw [HD.out]; rfl, rfl⟩
      | false =>
       rw [Bool.false_or] at hokv
       by_cases q5 : 16384 < nn
       ·have q6 : decide ((nn : Int) > 16384) = true := decide_eq_true (by omega)
        have q7 : (nn : Int) > 16384 := by omega
        have HD := Lib.hid (show okp = false by rw [hokv, decide_eq_false (by omega)])
        clear hokv
        go_wp2_with fail
        go_meet
        case rel => exact ⟨by rw [HD.out]; rfl, rfl⟩
       ·have q6 : decide ((nn : Int) > 16384) = false := decide_eq_false (by omega)
        have q7 : ¬ (nn : Int) > 16384 := by omega
        have HD := Lib.hid (show okp = true by rw [hokv, decide_eq_true (by omega)])
        clear hokv
        go_wp2_with fail
        go_meet
        case rel => exact ⟨by rw [HD.out]; rfl, rfl⟩
     case rest =>
      obtain ⟨rfl, rfl⟩ := hcut
      try go_at_K
      go_upto_if 68 with fail
      go_cut [68, 11] (fun v rv wx => rv = .int .i64 (rvC (ps ++ [⟨xi, xd, some ⟨g2, 0, none⟩, nn, nn, full xl nn⟩])) ∧ w9 = wx)
      case first =>
       have hr : rvC (ps ++ [⟨xi, xd, some ⟨g2, 0, none⟩, nn, nn, full xl nn⟩]) = if okp then rvC ps else 7 := by
        unfold rvC
        rw [okC_snoc, HY.out.2.2.2.1]
        cases okp <;> simp
       have HR := Lib.hid hr
       clear hr
       cases okp with
       | true =>
        go_wp2_with fail
        go_meet
        case rel => exact ⟨by rw [HR.out]; rfl, rfl⟩
       | false =>
        go_wp2_with fail
        go_meet
        case rel => exact ⟨by rw [HR.out]; rfl, rfl⟩
      case rest =>
       obtain ⟨rfl, rfl⟩ := hcut
       try go_at_K
       have z0 := HY.out.1.cell 0
       have z1 := HY.out.1.cell 1
       have z2 := HY.out.1.cell 2
       have z3 := HY.out.1.cell 3
       simp only [List.getElem?_toArray, List.getElem?_cons_succ, List.getElem?_cons_zero] at z0 z1 z2 z3
       have hrx : Rising (recs rx) := by rw [HI.out.1.is]; exact schgs_rise HH.out.2.1 _
       have hnx : nx ≤ 90000 := by
        have h1 := HX2.out.2.1.len
        have h2 := num_load (recs rx)
        have h3 := sload_chgs 20000 ps (recs rs) HI.out.1.len
        have h4 := HH.out.2.2.1
        have h5 := HX.out.2.2.2.2.2.2.2.1
        rw [HI.out.1.is, ← HI.out.1.is, recs_len] at h2
        rw [← HI.out.1.is] at h3
        have h6 : ps.length * (20000 + 8) ≤ 12 * (20000 + 8) := Nat.mul_le_mul_right _ h5
        omega
       have haf := lafter_any Ax nx cx 0 rx xi nn xd xA xm xc xl w9 HY.out.2.1 hrx hnx HY.out.2.2.1 HX.out.2.2.2.2.2.2.2.2
       have hiw : IntKind.i64.wrap ((i : Int) + 1) = (i : Int) + 1 := IntWalk.i64_in _ (by omega)
       have HAF := Lib.hid haf
       clear haf hrx hnx
       go_wp2_with fail
       refine HAF.out.mono ?_
       rintro e w10 ⟨A', n', c', rs', rfl, hr10, hrc, hO10⟩
       have hlt := HI.out.2.2.2.2.2.2.2
       have hfin : CoI w w10 rs cs (i + 1) A9 n9 c9 (ps ++ [⟨xi, xd, some ⟨g2, 0, none⟩, nn, nn, full xl nn⟩]) A' n' c' rs' := by
        refine ⟨H9.out.1.below hO10, ?_, hr10.mono (Nat.zero_le _), ?_, Old.trans H9.out.2.2 hO10⟩
        ·rw [List.map_append, HI.out.1.map, List.take_add_one, HI.out.2.1, List.map_append]
         congr 1
         show [(xi, xd, full xl nn)] = [IV.ch _]
         rw [HI.out.2.2.2.2.1]
        ·rw [hrc, HI.out.1.is, schgs_snoc]
       have HF := Lib.hid (And.intro hfin hlt)
       clear hr10 hrc hO10 hlt hfin
       go_wp2_with fail
       go_roundw
       case measure => have := HF.out.2.1; simp [intOf]; omega
       case rel => exact ⟨i + 1, A9, n9, c9, _, A', n', c', rs', HF.out.2.1, HF.out.2.2, rfl, rfl, rfl, by go_num, HF.out.1⟩
  ·by_cases h1 : i < mc
   ·have h12 : i = 12 := by omega
    have hii : (i : Int) < mc := by omega
    have hid : decide ((i : Int) < (mc : Int)) = true := decide_eq_true hii
    have hii2 : ¬ (i : Int) < 12 := by omega
    have hid2 : decide ((i : Int) < 12) = false := decide_eq_false hii2
    have HTK := Lib.hid (show cs.take i = cs.take 12 by rw [h12])
    clear hlt h1 h12
    have htk : cs.take i = cs.take 12 := HTK.out
    cases hall : ps.all okC with
    | false =>
     have hr7 : rvC ps = 7 := by unfold rvC; rw [hall]; rfl
     have hcv : comV (recs rs) ps room = 7 := by unfold comV; rw [hall]; rfl
     rw [hr7]
     have HV := Lib.hid (And.intro hI (And.intro hcv htk))
     clear hI hcv htk hall hr7
     go_wp2_with fail
     refine bodyPost_ret (results_tmp3 rfl _ _ _) rfl ?_
     rw [← HTG.out]
     refine ⟨A1, n1, c1, ps, A, m, c, rs, by rw [HV.out.2.1]; rfl, HV.out.1.own, by rw [HV.out.1.map, HV.out.2.2], HH.out.1.below HV.out.1.old, ?_, HV.out.1.old⟩
     rw [HV.out.2.1]
     rfl
    | true =>
     have hr0 : rvC ps = 0 := by unfold rvC; rw [hall]; rfl
     rw [hr0]
     have hbd : sload (recs rx) ≤ 1000000 := by
      have h3 := sload_chgs 20000 ps (recs rs) hI.len
      have h4 := HH.out.2.2.1
      have h5 : ps.length ≤ 12 := Nat.le_trans hI.num hi12
      rw [← hI.is] at h3
      have h6 : ps.length * (20000 + 8) ≤ 12 * (20000 + 8) := Nat.mul_le_mul_right _ h5
      omega
     have hld := lload_any Ax nx cx 0 rx wr hI.mod (by omega)
     obtain ⟨ld, hldd⟩ : ∃ ld, sload (recs rx) = ld := ⟨_, rfl⟩
     rw [hldd] at hld hbd
     have hcv : comV (recs rs) ps room = if room < ld then 49 else 0 := by unfold comV; rw [hall, ← hI.is, hldd]; rfl
     have HV := Lib.hid (And.intro hI (And.intro hcv htk))
     clear hI hcv htk hall hr0 hldd
     by_cases hlr : room < ld
     ·have q1 : decide ((ld : Int) > (room : Int)) = true := decide_eq_true (by omega)
      have q2 : (ld : Int) > (room : Int) := by omega
      have HQ := Lib.hid (if_pos hlr : (if room < ld then (49 : Int) else 0) = 49)
      clear hlr
      go_wp2_with (go_at_call 24; refine hld.mono ?_; rintro e w5 ⟨rfl, hO5⟩; have H5 := Lib.hid hO5; clear hO5)
      refine bodyPost_ret (results_tmp3 rfl _ _ _) rfl ?_
      rw [← HTG.out]
      refine ⟨A1, n1, c1, ps, A, m, c, rs, by rw [HV.out.2.1, HQ.out]; rfl, HV.out.1.own.below H5.out, by rw [HV.out.1.map, HV.out.2.2], HH.out.1.below (Old.trans HV.out.1.old H5.out), ?_, Old.trans HV.out.1.old H5.out⟩
      rw [HV.out.2.1, HQ.out]
      rfl
     ·have q1 : decide ((ld : Int) > (room : Int)) = false := decide_eq_false (by omega)
      have q2 : ¬ (ld : Int) > (room : Int) := by omega
      have HQ := Lib.hid (if_neg hlr : (if room < ld then (49 : Int) else 0) = 0)
      clear hlr
      go_wp2_with (go_at_call 24; refine hld.mono ?_; rintro e w5 ⟨rfl, hO5⟩; have H5 := Lib.hid hO5; clear hO5)
      refine bodyPost_ret (results_tmp3 rfl _ _ _) rfl ?_
      rw [← HTG.out]
      refine ⟨A1, n1, c1, ps, Ax, nx, cx, rx, by rw [HV.out.2.1, HQ.out]; rfl, HV.out.1.own.below H5.out, by rw [HV.out.1.map, HV.out.2.2], HV.out.1.mod.below H5.out, ?_, Old.trans HV.out.1.old H5.out⟩
      rw [HV.out.2.1, HQ.out, if_pos rfl]
      exact HV.out.1.is
   ·have hii : ¬ (i : Int) < mc := by omega
    have hid : decide ((i : Int) < (mc : Int)) = false := decide_eq_false hii
    have HTK := Lib.hid (show cs.take i = cs.take 12 by rw [List.take_of_length_le (by rw [HH.out.2.2.2.2.1]; omega), List.take_of_length_le (by rw [HH.out.2.2.2.2.1]; omega)])
    clear hlt h1
    have htk : cs.take i = cs.take 12 := HTK.out
    cases hall : ps.all okC with
    | false =>
     have hr7 : rvC ps = 7 := by unfold rvC; rw [hall]; rfl
     have hcv : comV (recs rs) ps room = 7 := by unfold comV; rw [hall]; rfl
     rw [hr7]
     have HV := Lib.hid (And.intro hI (And.intro hcv htk))
     clear hI hcv htk hall hr7
     go_wp2_with fail
     refine bodyPost_ret (results_tmp3 rfl _ _ _) rfl ?_
     rw [← HTG.out]
     refine ⟨A1, n1, c1, ps, A, m, c, rs, by rw [HV.out.2.1]; rfl, HV.out.1.own, by rw [HV.out.1.map, HV.out.2.2], HH.out.1.below HV.out.1.old, ?_, HV.out.1.old⟩
     rw [HV.out.2.1]
     rfl
    | true =>
     have hr0 : rvC ps = 0 := by unfold rvC; rw [hall]; rfl
     rw [hr0]
     have hbd : sload (recs rx) ≤ 1000000 := by
      have h3 := sload_chgs 20000 ps (recs rs) hI.len
      have h4 := HH.out.2.2.1
      have h5 : ps.length ≤ 12 := Nat.le_trans hI.num hi12
      rw [← hI.is] at h3
      have h6 : ps.length * (20000 + 8) ≤ 12 * (20000 + 8) := Nat.mul_le_mul_right _ h5
      omega
     have hld := lload_any Ax nx cx 0 rx wr hI.mod (by omega)
     obtain ⟨ld, hldd⟩ : ∃ ld, sload (recs rx) = ld := ⟨_, rfl⟩
     rw [hldd] at hld hbd
     have hcv : comV (recs rs) ps room = if room < ld then 49 else 0 := by unfold comV; rw [hall, ← hI.is, hldd]; rfl
     have HV := Lib.hid (And.intro hI (And.intro hcv htk))
     clear hI hcv htk hall hr0 hldd
     by_cases hlr : room < ld
     ·have q1 : decide ((ld : Int) > (room : Int)) = true := decide_eq_true (by omega)
      have q2 : (ld : Int) > (room : Int) := by omega
      have HQ := Lib.hid (if_pos hlr : (if room < ld then (49 : Int) else 0) = 49)
      clear hlr
      go_wp2_with (go_at_call 24; refine hld.mono ?_; rintro e w5 ⟨rfl, hO5⟩; have H5 := Lib.hid hO5; clear hO5)
      refine bodyPost_ret (results_tmp3 rfl _ _ _) rfl ?_
      rw [← HTG.out]
      refine ⟨A1, n1, c1, ps, A, m, c, rs, by rw [HV.out.2.1, HQ.out]; rfl, HV.out.1.own.below H5.out, by rw [HV.out.1.map, HV.out.2.2], HH.out.1.below (Old.trans HV.out.1.old H5.out), ?_, Old.trans HV.out.1.old H5.out⟩
      rw [HV.out.2.1, HQ.out]
      rfl
     ·have q1 : decide ((ld : Int) > (room : Int)) = false := decide_eq_false (by omega)
      have q2 : ¬ (ld : Int) > (room : Int) := by omega
      have HQ := Lib.hid (if_neg hlr : (if room < ld then (49 : Int) else 0) = 0)
      clear hlr
      go_wp2_with (go_at_call 24; refine hld.mono ?_; rintro e w5 ⟨rfl, hO5⟩; have H5 := Lib.hid hO5; clear hO5)
      refine bodyPost_ret (results_tmp3 rfl _ _ _) rfl ?_
      rw [← HTG.out]
      refine ⟨A1, n1, c1, ps, Ax, nx, cx, rx, by rw [HV.out.2.1, HQ.out]; rfl, HV.out.1.own.below H5.out, by rw [HV.out.1.map, HV.out.2.2], HV.out.1.mod.below H5.out, ?_, Old.trans HV.out.1.old H5.out⟩
      rw [HV.out.2.1, HQ.out, if_pos rfl]
      exact HV.out.1.is
theorem Rd.loop {w w' : World} {A : Option Addr} {m c x : Nat} {l : List UInt8} (h : Rd w A m c l) (hl : ∃ r, w.heap[x]? = some (.loop r)) (ht : Turn [x] w w') : Rd w' A m c l := by
 obtain ⟨h1, h2, h3, h4⟩ := h
 refine ⟨h1, h2, h3, ?_⟩
 rcases h4 with h4 | ⟨b, off, rfl, hb, hc⟩
 ·exact .inl h4
 ·refine .inr ⟨b, off, rfl, Nat.lt_of_lt_of_le hb ht.size, fun k y hy => ?_⟩
  have hk := hc k y hy
  have hbx : b ≠ x := fun e => by
   subst e
   obtain ⟨r, hr⟩ := hl
   simp [World.cell?, hr] at hk
  exact cell_turn hk ht (by simpa using hbx)
theorem alArg.loop {M : List SRec} {k : Nat} {args : Array Value} {W W' : World} {x : Nat} (h : alArg M k args W) (hl : ∃ r, W.heap[x]? = some (.loop r)) (ht : Turn [x] W W') : alArg M k args W' := by
 obtain ⟨p, A, c, h1, h2, h3⟩ := h
 exact ⟨p, A, c, h1, h2, h3.loop hl ht⟩
theorem alArg.size {M : List SRec} {k : Nat} {args : Array Value} {W : World} (h : alArg M k args W) : args.size = 2 := by
 obtain ⟨p, A, c, h1, rfl, h3⟩ := h
 rfl
structure CntI (w8 : World) (kx : Nat) (k : Nat) (G : List Nat) (W : World) : Prop where
 cnt : Blk W kx 3 #[.int .i64 (k : Int)]
 turn : Turn [kx] w8 W
 new : ∀ x ∈ G, w8.heap.size ≤ x
 lt : kx < w8.heap.size
theorem CntI.hI {w8 : World} {kx k : Nat} {G1 G2 : List Nat} {W1 W2 : World} (h : CntI w8 kx k G1 W1) (ht : Turn G1 W1 W2) (hG : ∀ x ∈ G2, x ∈ G1 ∨ W1.heap.size ≤ x) : CntI w8 kx k G2 W2 :=
 ⟨h.cnt.turn ht (fun hm => by have := h.new _ hm; have := h.lt; omega), h.turn.trans ht (fun x hx => .inr (h.new x hx)), fun x hx => (hG x hx).elim (h.new x) (fun hx => Nat.le_trans h.turn.size hx), h.lt⟩
theorem CntI.hIl {w8 : World} {kx k x : Nat} {G1 : List Nat} {W1 W2 : World} (h : CntI w8 kx k G1 W1) (hx : w8.heap.size ≤ x) (ht : Turn [x] W1 W2) : CntI w8 kx k G1 W2 :=
 ⟨h.cnt.turn ht (fun hm => by simp at hm; have := h.lt; omega), h.turn.trans ht (fun y hy => .inr (by simp at hy; omega)), h.new, h.lt⟩
theorem CntI.start {w8 : World} {kx : Nat} (h : Blk w8 kx 3 #[.int .i64 0]) : CntI w8 kx 0 [] w8 := ⟨h, Turn.refl _ _, by simp, h.lt⟩
theorem wp_rangeCnt {g : Operand} {ps : Array Tmp} {body : Code} {Q : Exit → Act → World → Prop} {a : Act} {w7 w8 : World} {gf : Nat} {lb : Array Value} {M : List SRec} {kx : Nat}
  (hit : IterH Tryz.prog gf lb (alArg M) M.length (fun _ W => Old w7 W) kx) (h78 : Old w7 w8) (hk : Blk w8 kx 3 #[.int .i64 0]) (hg : a.eval g = .func (.func gf) #[] lb) (eg : ∀ args w, (callFunc gf args).run Tryz.prog w = .ok (.enter gf args) w) (hps : ps.size = 2)
  (hbody : ∀ (l k : Nat) (u1 u2 : Value) (W : World) (R : Exit → Act → World → Prop), k < M.length → W.cell? ⟨kx, 0, none⟩ = some (.int .i64 (k : Int)) → W.frozen? ⟨kx, 0, none⟩ = false → (∀ a', R .normal a' (W.setCell ⟨kx, 0, none⟩ (.int .i64 ((k + 1 : Nat) : Int)))) →
   body.wpIn (Fence.wide.inRound l) 2 Tryz.prog R { tmps := (ps.zip #[u1, u2]).foldl (fun t (p, v) => t.setIfInBounds p v) a.tmps, defers := [] } W)
  (hdone : ∀ W : World, w8.heap.size + 1 < W.heap.size → Turn [kx] w8 W → Blk W kx 3 #[.int .i64 (M.length : Int)] → W.heap[w8.heap.size]? = some (.deferred (some [])) → Q .normal { a with defers := { target := .collected w8.heap.size, args := #[] } :: a.defers } W) :
  (Code.rangeFunc g ps .skip body).wp Tryz.prog Q a w8 := by
 have hB : kx < w8.heap.size := hk.lt
 refine wp_rangeH (G := []) hg eg hit (Nat.le_of_lt hB) (fun k args W h => h.size.trans hps.symm) (by simp) (fun k G W => CntI w8 kx k G W) (fun _ _ _ => False) (fun _ _ _ _ _ h => h.elim)
  (fun k G1 G2 W1 W2 h ht hG => h.hI ht hG) (fun k G1 W1 W2 h hl ht => h.hIl (by omega) ht) (fun k args W1 W2 h hl ht => h.loop hl ht) (CntI.start hk) (fun W ht => Old.trans h78 ht.below)
  (fun args => { tmps := (ps.zip args).foldl (fun t (p, v) => t.setIfInBounds p v) a.tmps, defers := [] }) ?_ ?_ ?_ (fun c k W _ _ h => h.elim)
 ·intro l args k W K _ hK
  exact wpIn_skip (show Exit.then K _ .normal _ W from hK)
 ·rintro l k args G1 W hkN hlt hI ⟨pp, Ap, cp, hp, rfl, hr⟩ hd1 hd2 hgs
  have hc := hI.cnt.cell 0
  simp only [List.getElem?_toArray, List.getElem?_cons_zero] at hc
  refine hbody l k _ _ W _ hkN hc (hI.cnt.frozen 0) (fun a' => ⟨⟨[kx], (Turn.refl _ _).setCell (.inl (by simp)) _, by simp; omega, by simp; omega, fun x hx => ?_⟩, ⟨?_, hI.turn.setCell (.inl (by simp)) _, hI.new, hI.lt⟩⟩)
  ·simp at hx
   subst hx
   exact ⟨fun hm => by have := hI.new _ hm; omega, Nat.le_refl _⟩
  ·have := hI.cnt.set_ 0 (.int .i64 ((k + 1 : Nat) : Int))
   simpa using this
 ·intro G1 W hlt hI hK
  exact hdone W hlt hI.turn hI.cnt hK
theorem wp_rangeH2 (q1 q2 : Nat) {P : Program} {g : Operand} {ps : Array Tmp} {assign body : Code} {Q : Exit → Act → World → Prop} {a : Act} {w : World}
  {gf : Nat} {lb : Array Value} {Arg : Nat → Array Value → World → Prop} {N : Nat} {Start : List Nat → World → Prop} {G : List Nat} {B : Nat}
  (hg : a.eval g = .func (.func gf) #[] lb) (eg : ∀ args w, (callFunc gf args).run P w = .ok (.enter gf args) w)
  (hit : IterH P gf lb Arg N Start B) (hB : B ≤ w.heap.size) (hps : ∀ k args W, Arg k args W → args.size = ps.size) (hG : ∀ t ∈ G, t < w.heap.size)
  (I : Nat → List Nat → World → Prop) (Ix : Code → Nat → World → Prop)
  (hIx : ∀ c k W1 W2 S, Ix c k W1 → Turn S W1 W2 → (∀ t ∈ S, t = w.heap.size + 1 ∧ ∃ r, W1.heap[t]? = some (.loop r)) → Ix c k W2)
  (hI : ∀ k G1 G2 W1 W2, I k G1 W1 → Turn G1 W1 W2 → (∀ x ∈ G2, x ∈ G1 ∨ W1.heap.size ≤ x) → I k G2 W2)
  (hIl : ∀ k G1 W1 W2, I k G1 W1 → (∃ r, W1.heap[w.heap.size + 1]? = some (.loop r)) → Turn [w.heap.size + 1] W1 W2 → I k G1 W2)
  (hA : ∀ k args W1 W2, Arg k args W1 → (∃ r, W1.heap[w.heap.size + 1]? = some (.loop r)) → Turn [w.heap.size + 1] W1 W2 → Arg k args W2)
  (h0 : I 0 G w) (hS1 : ∀ W, Turn [] w W → Start G W)
  (hassign : ∀ (l : Nat) (args : Array Value) (k : Nat) (W : World) (K : Act → World → Prop), Arg k args W → K { tmps := (((ps.zip args).foldl (fun t (p, v) => t.setIfInBounds p v) a.tmps).setIfInBounds q1 (args.getD 0 undef)).setIfInBounds q2 (args.getD 1 undef), defers := [] } W →
   assign.wpIn (Fence.wide.inRound l) 2 P (Exit.then K (fun _ _ _ => False)) { tmps := (ps.zip args).foldl (fun t (p, v) => t.setIfInBounds p v) a.tmps, defers := [] } W)
  (hbody : ∀ (l k : Nat) (args : Array Value) (G1 : List Nat) (W : World), k < N → w.heap.size + 1 < W.heap.size → I k G1 W → Arg k args W → w.heap.size ∉ G1 → w.heap.size + 1 ∉ G1 → (∀ x ∈ G1, x < W.heap.size) → body.wpIn (Fence.wide.inRound l) 2 P (roundEndsH w.heap.size I Ix k G1 B W) { tmps := (((ps.zip args).foldl (fun t (p, v) => t.setIfInBounds p v) a.tmps).setIfInBounds q1 (args.getD 0 undef)).setIfInBounds q2 (args.getD 1 undef), defers := [] } W)
  (hdone : ∀ (G1 : List Nat) (W : World), w.heap.size + 1 < W.heap.size → I N G1 W → W.heap[w.heap.size]? = some (.deferred (some [])) → Q .normal { a with defers := { target := .collected w.heap.size, args := #[] } :: a.defers } W)
  (hstop : ∀ (c : Code) (k : Nat) (W : World), w.heap.size + 1 < W.heap.size → k < N → Ix c k W → W.heap[w.heap.size]? = some (.deferred (some [])) → c.wp P Q { a with defers := { target := .collected w.heap.size, args := #[] } :: a.defers } W) :
  (Code.rangeFunc g ps assign body).wp P Q a w :=
 wp_rangeH hg eg hit hB hps hG I Ix hIx hI hIl hA h0 hS1 (fun args => { tmps := (((ps.zip args).foldl (fun t (p, v) => t.setIfInBounds p v) a.tmps).setIfInBounds q1 (args.getD 0 undef)).setIfInBounds q2 (args.getD 1 undef), defers := [] }) hassign hbody hdone hstop
end Go.Proofs.YtgjnmpjimhbfgaaGreatDoor
