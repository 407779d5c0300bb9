/-
  objstore: All; the iterator's beginning.
-/
import Derived.Test.YtgjnmpjimhbfgaaGreatDoorZzSm13
import Derived.Test.YtgjnmpjimhbfgaaGreatDoorZzRangeH
namespace Go.Proofs.YtgjnmpjimhbfgaaGreatDoor
set_option maxRecDepth 100000
open Go.RowKit
attribute [local go_sem] Oper.semAt_some
theorem stall_any (p : Option Addr) (w : World) : Calls Tryz.prog 22 #[.pointer p] w fun e w' => e = .returned (.func (.func 53) #[] #[.pointer (some ⟨w.heap.size, 0, none⟩)]) ∧ w' = w.alloc (.cells #[.pointer p] 28) := by
 go_enter Tryz.func22, Tryz.ntmps22
 go_wp2
 try go_ret
 exact ⟨rfl, rfl⟩
def alArg (M : List SRec) (k : Nat) (args : Array Value) (W : World) : Prop := ∃ p A c, M[k]? = some p ∧ args = #[.int .i64 p.1, .slice A p.2.length c] ∧ Rd W A p.2.length c p.2
structure AlI (w0 wl W : World) (J : Nat → List Nat → World → Prop) (k : Nat) (A : Option Addr) (c : Nat) (M : List SRec) (Gk : List Nat) : Prop where
 j : J k Gk wl
 ids : OwnE Tryz.eIr wl W.heap.size (.slice A M.length c) (M.map (·.1))
 old : Old w0 wl
 lt : ∀ y ∈ Gk, y < wl.heap.size
 own : ∀ y, (Value.slice A M.length c).ownBlock = some y → y ∈ Gk
set_option maxHeartbeats 4000000 in
theorem all_iter (w0 : World) (bx x b : Nat) (v r br : Value) (M : List SRec) (hbx : w0.cell? ⟨bx, 0, none⟩ = some (.pointer (some ⟨x, 0, none⟩))) (_hbl : bx < w0.heap.size) (hx : Blk w0 x 83 #[v, r, .map (some b), br]) (hM : RMap w0 b M) (hN : M.length ≤ 100000) (hl : ∀ q ∈ M, q.2.length ≤ 100000) :
  IterH Tryz.prog 53 #[.pointer (some ⟨bx, 0, none⟩)] (alArg M) M.length (fun _ W => Old w0 W) w0.heap.size := by
 intro l J Jx W G hJ hJx hY h0 hS
 have hne := neStore
 have c0 : W.cell? ⟨bx, 0, none⟩ = some (.pointer (some ⟨x, 0, none⟩)) := cell_old hS hbx
 have hx0 := hx.cell 2
 simp only [List.getElem?_toArray, List.getElem?_cons_succ, List.getElem?_cons_zero] at hx0
 have c2 := cell_old hS hx0
 have hids := ids_any b M W (hM.below hS) hN
 refine callsIn_of_wp Tryz.func53 rfl trivial ?_ rfl
 simp only [Tryz.ntmps53, List.size_toArray, List.length_cons, List.length_nil, Nat.reduceAdd, Nat.reduceSub, Array.replicate_succ, Array.replicate_zero, List.push_toArray, List.append_toArray, List.nil_append, List.cons_append]
 have HY := Lib.hid hY
 have HV := Lib.hid (And.intro hS (And.intro h0 (And.intro hM (And.intro hN hl))))
 clear hY hS h0 hM hN hl hbx hx hx0
 gi_wp2_with (fail)
 refine ⟨trivial, ?_⟩
 refine (callsIn_wide.2 hids).mono ?_
 rintro e w1 ⟨A1, c1, rfl, hO1, hb1⟩
 have hJ1 : J 0 (Value.slice A1 M.length c1).ownBlock.toList w1 := hJ 0 G _ W w1 HV.out.2.1 (Turn.of_below G hb1) (fun y hy => .inr (hO1.lt (by simpa using hy)).1)
 have HI0 := Lib.hid (show AlI w0 w1 W J 0 A1 c1 M (Value.slice A1 M.length c1).ownBlock.toList from ⟨hJ1, hO1, Old.trans HV.out.1 hb1, fun y hy => (hO1.lt (by simpa using hy)).2, fun y hy => by rw [hy]; simp⟩)
 obtain ⟨N, hNN⟩ : ∃ N, M.length = N := ⟨_, rfl⟩
 rw [hNN]
 have HN := Lib.hid hNN
 clear hids hO1 hb1 hJ1 hNN c0 c2
 gi_wp2
 gi_loopw [15] (fun i wl => ∃ k : Nat, k ≤ N ∧ i = .int .i64 (k : Int) ∧ ∃ Gk, AlI w0 wl W J k A1 c1 M Gk) (fun i _ => N - (intOf i).toNat)
 case atStart => exact ⟨0, by omega, rfl, _, HI0.out⟩
 case round =>
  obtain ⟨k, hk, rfl, Gk, hI⟩ := hrel
  have HI := Lib.hid hI
  clear hI
  by_cases hlt : k < N
  ·have hki : (k : Int) < N := by omega
   have hkb : (k : Int) + 1 ≤ 100000 := by have := HV.out.2.2.2.1; have := HN.out; omega
   obtain ⟨p, hp⟩ : ∃ p, M[k]? = some p := ⟨_, List.getElem?_eq_getElem (by rw [HN.out]; exact hlt)⟩
   obtain ⟨g, off, rfl, _, h3⟩ := HI.out.ids.rd.at_ (j := k) (x := p.1) (by rw [List.getElem?_map, hp]; rfl)
   have k0 : wr.cell? ⟨g, off + k, none⟩ = some (.int .i64 p.1) := by have := h3 0 (by decide); have hs : Tryz.eIr.sz = 1 := rfl; rw [hs, Nat.mul_one, Nat.add_zero] at this; exact this
   have hpm := List.mem_of_getElem? hp
   obtain ⟨A5, c5, hlk, hO5⟩ := (HV.out.2.2.1.below HI.out.old).look hpm
   have hll := HV.out.2.2.2.2 p hpm
   have hcl := rclone_own A5 p.2.length c5 p.2 wr hO5.rd (by omega)
   obtain ⟨pl, hpl⟩ : ∃ pl, p.2.length = pl := ⟨_, rfl⟩
   obtain ⟨pi, hpi⟩ : ∃ pi, p.1 = pi := ⟨_, rfl⟩
   rw [hpl] at hlk hcl
   rw [hpi] at k0 hlk
   have HP := Lib.hid (And.intro hp (And.intro hpl hpi))
   clear h3 hp hpm hO5 hll hpl hpi
   gi_wp2_with (fail)
   refine ⟨trivial, ?_⟩
   refine (callsIn_wide.2 hcl).mono ?_
   rintro e w5 ⟨A6, c6, rfl, hO6, hb6⟩
   have hJ5 : J k Gk w5 := hJ k Gk Gk wr w5 HI.out.j (Turn.of_below Gk hb6) (fun y hy => .inl hy)
   have hlt5 : ∀ y ∈ Gk, y < w5.heap.size := fun y hy => Nat.lt_of_lt_of_le (HI.out.lt y hy) hb6.size
   have hA5 : alArg M k #[.int .i64 pi, .slice A6 pl c6] w5 := ⟨p, A6, c6, HP.out.1, by rw [HP.out.2.1, HP.out.2.2], by rw [HP.out.2.1]; exact hO6.rd⟩
   obtain ⟨fn, tmps, assign, body, hy, hR⟩ := HY.out k _ Gk w5 (by rw [HN.out]; exact hlt) hJ5 hA5 hlt5
   have HR := Lib.hid hR
   have H5 := Lib.hid (And.intro hb6 hlt5)
   clear hR hcl hO6 hb6 hJ5 hlt5 hA5 hlk k0
   gi_wp2
   refine HR.out.mono ?_
   rintro e W' (⟨rfl, hJ', S, hTS, hS⟩ | ⟨rfl, hJx'⟩)
   ·have HM2 := Lib.hid (And.intro hJ' (And.intro hTS hS))
    clear hJ' hTS hS
    gi_wp2
    go_roundw
    case rel =>
     refine ⟨k + 1, by omega, by go_num, Gk, HM2.out.1, ?_, ?_, fun y hy => Nat.lt_of_lt_of_le (H5.out.2 y hy) HM2.out.2.1.size, HI.out.own⟩
     ·exact (HI.out.ids.below H5.out.1).turn HM2.out.2.1 (fun g hg hm => (HM2.out.2.2 g hm).1 (HI.out.own g hg))
     ·exact (Old.trans HI.out.old H5.out.1).tnew HM2.out.2.1 (fun y hy => (HM2.out.2.2 y hy).2)
    case measure => simp [intOf]; omega
   ·gi_wp2
    refine bodyPost_ret (results_none rfl _ _ _) rfl ?_
    exact ⟨⟨_, rfl⟩, .inr ⟨k, by rw [HN.out]; exact hlt, hJx'⟩⟩
  ·obtain rfl : k = N := by omega
   have hki : ¬ (k : Int) < k := by omega
   gi_wp2
   go_end0
   exact ⟨⟨_, rfl⟩, .inl ⟨Gk, by rw [HN.out]; exact HI.out.j⟩⟩
end Go.Proofs.YtgjnmpjimhbfgaaGreatDoor
namespace Go.Proofs.YtgjnmpjimhbfgaaGreatDoor
set_option maxRecDepth 100000
open Go.RowKit
theorem stparam_any (A : Option Addr) (m c : Nat) (l : List UInt8) (w : World) (h : Rd w A m c l) (hm : m ≤ 100000) : Calls Tryz.prog 45 #[.slice A m c] w fun e w' => ∃ A' n' c', e = .returned (.slice A' n' c') ∧ Own w' w.heap.size (.slice A' n' c') (12 :: l) ∧ Old w w' := by
 have h1 := Own.of_blk (w := w.alloc (.cells (([12] : List UInt8).map B).toArray 5)) (base := w.heap.size) (l := [12]) (n := 1) (Blk.new _ _ _) rfl (by unfold maxLen; omega) (Nat.le_refl _)
 have hl := h.1
 have H1 := Lib.hid (And.intro h1 (And.intro (h.below ((Old.refl w).alloc (.cells (([12] : List UInt8).map B).toArray 5))) (show m = l.length from hl)))
 clear h1 h hl
 go_enter Tryz.func45, Tryz.ntmps45
 go_wp2_with (at_builtin; go_loud (refine wp_app2 (.tmp 3) (.tmp 4) w.heap.size (.slice (some ⟨w.heap.size, 0, none⟩) 1 1) [12] H1.out.1 (by simp) A m c l H1.out.2.1 (by have := H1.out.2.2; simp; omega) rfl rfl rfl rfl ?_; intro A9 n9 c9 w9 hn9 hG9; have H9 := Lib.hid hG9; clear hG9))
 go_ret
 exact ⟨A9, n9, c9, rfl, H9.out.own, Below.trans ((Old.refl w).alloc _) H9.out.below⟩
structure RcV where
 id : Int
 A : Option Addr
 n : Nat
 c : Nat
 l : List UInt8
def RcV.rec_ (p : RcV) : SRec := (p.id, p.l)
def Tryz.eRc : ETy RcV where
 t := 53
 ts := 50
 sz := 2
 bytes := 32
 z := .agg #[.int .i64 0, .slice none 0 0]
 cells := fun p => [.int .i64 p.id, .slice p.A p.n p.c]
 len := fun _ => rfl
 one := fun x u hu => by simp at hu; rcases hu with rfl | rfl <;> rfl
 pos := by decide
 zsz := rfl
 small := by decide
 und := Tryz.underlying50
 info := by kernel_rfl
def RcAt (w : World) (base : Nat) (v : Value) (rs : List RcV) : Prop := OwnE Tryz.eRc w base v rs ∧ ∀ p ∈ rs, Own w 0 (.slice p.A p.n p.c) p.l
theorem RcAt.below {w w' : World} {base : Nat} {v : Value} {rs : List RcV} (h : RcAt w base v rs) (hb : Old w w') : RcAt w' base v rs := ⟨h.1.below hb, fun p hp => (h.2 p hp).below hb⟩
theorem RcAt.mono {w : World} {base base' : Nat} {v : Value} {rs : List RcV} (h : RcAt w base v rs) (hb : base' ≤ base) : RcAt w base' v rs := ⟨h.1.mono hb, h.2⟩
theorem RcAt.nil (w : World) (base : Nat) : RcAt w base (.slice none 0 0) [] := ⟨OwnE.nil _ _, fun p hp => (by cases hp)⟩
theorem RcAt.turn {w w' : World} {base : Nat} {v : Value} {rs : List RcV} {S : List Nat} (h : RcAt w base v rs) (ht : Turn S w w') (hS : ∀ g ∈ S, w.heap.size ≤ g ∨ ∃ t cs, Blk w g t cs ∧ t ≠ 5 ∧ t ≠ 53) : RcAt w' base v rs := by
 refine ⟨h.1.turn ht (fun g hg hm => ?_), fun p hp => (h.2 p hp).turn ht (fun g hg hm => ?_)⟩
 ·rcases hS g hm with h1 | ⟨t, cs, hb, _, h2⟩
  ·have := (h.1.lt hg).2; omega
  ·exact h.1.ne hb h2 hg
 ·rcases hS g hm with h1 | ⟨t, cs, hb, h2, _⟩
  ·have := ((h.2 p hp).lt hg).2; omega
  ·exact (h.2 p hp).ne hb h2 hg
theorem RcAt.snoc {w w1 w' : World} {base : Nat} {A A' : Option Addr} {n c n' c' : Nat} {rs : List RcV} {p : RcV} (h : RcAt w base (.slice A n c) rs) (hp : Own w 0 (.slice p.A p.n p.c) p.l) (h1 : Old w w1)
  (hG : GrewE Tryz.eRc base w1 w' (.slice A n c) A' n' c' (rs ++ [p])) : RcAt w' base (.slice A' n' c') (rs ++ [p]) := by
 have hown : ∀ q : RcV, Own w 0 (.slice q.A q.n q.c) q.l → Own w' 0 (.slice q.A q.n q.c) q.l := fun q hq => by
  have hq2 := hq.below h1
  refine hq2.keep fun g' hg' => ?_
  refine hG.grown.block g' (hq2.lt hg').2 (fun e => ?_)
  obtain ⟨cs, hbk⟩ := OwnE.blk (h.1.below h1) (g := g') e.symm
  exact hq2.ne hbk (by decide) hg'
 refine ⟨hG.own, fun r hr => ?_⟩
 rcases List.mem_append.1 hr with hr | hr
 ·exact hown r (h.2 r hr)
 ·rw [List.mem_singleton] at hr
  subst hr
  exact hown _ hp
def recs (rs : List RcV) : List SRec := rs.map RcV.rec_
theorem recs_get {rs : List RcV} {i : Nat} {p : RcV} (h : rs[i]? = some p) : (recs rs)[i]? = some (p.id, p.l) := by unfold recs; rw [List.getElem?_map, h]; rfl
theorem recs_snoc (rs : List RcV) (p : RcV) : recs (rs ++ [p]) = recs rs ++ [(p.id, p.l)] := by unfold recs; rw [List.map_append]; rfl
theorem recs_len (rs : List RcV) : (recs rs).length = rs.length := List.length_map _
theorem RcAt.cells {w : World} {base : Nat} {A : Option Addr} {n c : Nat} {rs : List RcV} (h : RcAt w base (.slice A n c) rs) {i : Nat} {p : RcV} (hp : rs[i]? = some p) :
  ∃ g off, A = some ⟨g, off, none⟩ ∧ g < w.heap.size ∧ w.cell? ⟨g, off + i * 2, none⟩ = some (.int .i64 p.id) ∧ w.cell? ⟨g, off + i * 2 + 1, none⟩ = some (.slice p.A p.n p.c) := by
 obtain ⟨g, off, e, hg, hc⟩ := h.1.rd.at_ hp
 exact ⟨g, off, e, hg, hc 0 (by decide), hc 1 (by decide)⟩
theorem sload_take_le (M : List SRec) (k : Nat) : sload (M.take k) ≤ sload M := by
 have h : M = M.take k ++ M.drop k := (List.take_append_drop k M).symm
 conv => rhs; rw [h]
 unfold sload
 rw [List.map_append, List.sum_append]
 omega
theorem sload_snoc (M : List SRec) (p : SRec) : sload (M ++ [p]) = sload M + (p.2.length + 8) := by
 unfold sload
 rw [List.map_append, List.sum_append]
 simp
theorem lload_any (A : Option Addr) (n c base : Nat) (rs : List RcV) (w : World) (h : RcAt w base (.slice A n c) rs) (hl : sload (recs rs) ≤ 1000000000) :
  Calls Tryz.prog 24 #[.slice A n c] w fun e w' => e = .returned (.int .i64 (sload (recs rs) : Int)) ∧ Old w w' := by
 have hnl := h.1.len
 have hnm := h.1.max.1
 unfold maxLen at hnm
 have HH := Lib.hid (And.intro h (And.intro hl hnl))
 obtain ⟨T, hT⟩ : ∃ T, sload (recs rs) = T := ⟨_, rfl⟩
 rw [hT]
 have HT := Lib.hid hT
 clear h hl hnl hT
 go_enter Tryz.func24, Tryz.ntmps24
 go_wp2_with fail
 go_loopw [3, 4] (fun sv iv wl => ∃ k s : Nat, k ≤ n ∧ iv = .int .i64 (k : Int) ∧ sv = .int .i64 (s : Int) ∧ s = sload ((recs rs).take k) ∧ Old w wl) (fun _ iv _ => n - (intOf iv).toNat)
 case atStart => exact ⟨0, 0, by omega, rfl, rfl, rfl, Old.refl _⟩
 case round =>
  obtain ⟨k, s, hk, rfl, rfl, hs, hO⟩ := hrel
  by_cases hlt : k < n
  ·have hki : (k : Int) < n := by omega
   have hkd : decide ((k : Int) < (n : Int)) = true := decide_eq_true hki
   obtain ⟨p, hp⟩ : ∃ p, rs[k]? = some p := ⟨_, List.getElem?_eq_getElem (by rw [← HH.out.2.2]; exact hlt)⟩
   obtain ⟨g, off, rfl, hg, z0, z1⟩ := (HH.out.1.below hO).cells hp
   have hpl := (HH.out.1.2 p (List.mem_of_getElem? hp)).len
   obtain ⟨pn, hpn⟩ : ∃ pn, p.n = pn := ⟨_, rfl⟩
   rw [hpn] at z1 hpl
   have hs2 : s + (pn + 8) = sload ((recs rs).take (k + 1)) := by rw [take_snoc (recs_get hp), sload_snoc, ← hs, hpl]
   have hle := sload_take_le (recs rs) (k + 1)
   have hl := HH.out.2.1
   have hb1 : s + (pn + 8) ≤ 1000000000 := by omega
   have w1 : IntKind.i64.wrap ((pn : Int) + 8) = (pn : Int) + 8 := IntWalk.i64_in _ (by omega)
   have w2 : IntKind.i64.wrap ((s : Int) + ((pn : Int) + 8)) = (s : Int) + ((pn : Int) + 8) := IntWalk.i64_in _ (by omega)
   have HP := Lib.hid (And.intro hs2 (And.intro hO (And.intro hlt hb1)))
   clear hs hp hpl hpn hs2 hle hl hO hlt hg z0 hb1
   go_wp2_with fail
   go_roundw
   case rel => exact ⟨k + 1, s + (pn + 8), HP.out.2.2.1, by go_num, by go_num, HP.out.1, HP.out.2.1⟩
   case measure => have := HP.out.2.2.1; simp [intOf]; omega
  ·obtain rfl : k = n := by omega
   have hki : ¬ (k : Int) < k := by omega
   have hst : s = T := by rw [hs, ← HT.out, List.take_of_length_le (by rw [recs_len, ← HH.out.2.2]; exact Nat.le_refl _)]
   subst hst
   have HO := Lib.hid hO
   clear hs hO hk
   go_wp2_with fail
   go_ret
   exact ⟨rfl, HO.out⟩
structure AfS (w W : World) (X X3 g : Nat) (ic : Array Value) (id : Int) (n : Nat) (bl : List UInt8) (v : Value) : Prop where
 box : Blk W X 101 ic
 rc : Blk W X3 53 #[.int .i64 id, .slice (some ⟨g, 0, none⟩) n n]
 row : Own W 0 (.slice (some ⟨g, 0, none⟩) n n) bl
 old : Old w W
 ne : ∀ y, v.ownBlock = some y → y ≠ X3
theorem AfS.below {w W W' : World} {X X3 g n : Nat} {ic : Array Value} {id : Int} {bl : List UInt8} {v : Value} (h : AfS w W X X3 g ic id n bl v) (hb : Old W W') : AfS w W' X X3 g ic id n bl v := ⟨h.box.below hb, h.rc.below hb, h.row.below hb, Old.trans h.old hb, h.ne⟩
theorem AfS.grow {w W w7 : World} {X X3 g n n1 c1 n7 c7 base : Nat} {ic : Array Value} {id : Int} {bl : List UInt8} {A1 A7 : Option Addr} {l1 l2 : List RcV} (h : AfS w W X X3 g ic id n bl (.slice A1 n1 c1)) (ho : OwnE Tryz.eRc W base (.slice A1 n1 c1) l1)
  (hG : GrewE Tryz.eRc base W w7 (.slice A1 n1 c1) A7 n7 c7 l2) (hbw : base = w.heap.size) : AfS w w7 X X3 g ic id n bl (.slice A7 n7 c7) := by
 subst hbw
 have keep : ∀ y, y < W.heap.size → (Value.slice A1 n1 c1).ownBlock ≠ some y → w7.heap[y]? = W.heap[y]? := fun y hy hn => hG.grown.block y hy (fun e => hn e.symm)
 refine ⟨h.box.keep (keep X h.box.lt (ho.ne h.box (by decide))), h.rc.keep (keep X3 h.rc.lt (fun e => h.ne X3 e rfl)), h.row.keep (fun y hy => keep y (h.row.lt hy).2 (fun e => ?_)), Below.trans h.old hG.below, fun y hy => ?_⟩
 ·obtain ⟨cs, hbk⟩ := ho.blk e
  exact h.row.ne hbk (by decide) hy
 ·rcases hG.at_ with e | e
  ·exact h.ne y (e ▸ hy)
  ·rw [e] at hy
   cases hy
   have := h.rc.lt
   omega
structure IV where
 id : Int
 n : Int
 drop : Bool
 A : Option Addr
 m : Nat
 c : Nat
 l : List UInt8
def Tryz.eIC : ETy IV where
 t := 101
 ts := 61
 sz := 4
 bytes := 48
 z := .agg #[.int .i64 0, .int .i64 0, .bool false, .slice none 0 0]
 cells := fun p => [.int .i64 p.id, .int .i64 p.n, .bool p.drop, .slice p.A p.m p.c]
 len := fun _ => rfl
 one := fun x u hu => by simp at hu; rcases hu with rfl | rfl | rfl | rfl <;> rfl
 pos := by decide
 zsz := rfl
 small := by decide
 und := Tryz.underlying61
 info := by kernel_rfl
structure CsAt (W : World) (A : Option Addr) (m : Nat) (cs : List IV) : Prop where
 rd : RdC Tryz.eIC W A m cs
 each : ∀ x ∈ cs, RdE W x.A x.m x.c x.l
 wf : ∀ x ∈ cs, wfI x.id
theorem CsAt.below {w w' : World} {A : Option Addr} {m : Nat} {cs : List IV} (h : CsAt w A m cs) (hb : Old w w') : CsAt w' A m cs := ⟨h.rd.below hb, fun p hp => (h.each p hp).below hb, h.wf⟩
def IV.nn (x : IV) : Nat := if x.n < 0 ∨ 20000 < x.n then 50 else x.n.toNat
theorem IV.nn_le (x : IV) : x.nn ≤ 20000 := by unfold IV.nn; split <;> omega
def IV.ch (x : IV) : Int × Bool × List UInt8 := (x.id, x.drop, full x.l x.nn)
def PC.ch (p : PC) : Int × Bool × List UInt8 := (p.id, p.drop, p.l)
theorem full_len (l : List UInt8) (n : Nat) (h : n ≤ 20000) : (full l n).length = n := by
 unfold full
 rw [if_neg (by omega)]
 split
 ·rw [zs_len]; rfl
 ·rw [fullTo_len]; rfl
def ChOwn (w : World) (base : Nat) (v : Value) (ps : List PC) : Prop := OwnE Tryz.eC w base v ps ∧ ∀ p ∈ ps, Own w 0 (.slice p.A p.n p.c) p.l ∧ wfI p.id
theorem ChOwn.at_ {w : World} {base : Nat} {A : Option Addr} {n c : Nat} {ps : List PC} (h : ChOwn w base (.slice A n c) ps) : ChsAt w A n ps := ⟨h.1.rd, fun p hp => (h.2 p hp).1.rd, fun p hp => (h.2 p hp).2⟩
theorem ChOwn.below {w w' : World} {base : Nat} {v : Value} {ps : List PC} (h : ChOwn w base v ps) (hb : Old w w') : ChOwn w' base v ps := ⟨h.1.below hb, fun p hp => ⟨(h.2 p hp).1.below hb, (h.2 p hp).2⟩⟩
theorem ChOwn.snoc {w w1 w' : World} {base : Nat} {A A' : Option Addr} {n c n' c' : Nat} {ps : List PC} {p : PC} (h : ChOwn w base (.slice A n c) ps) (hp : Own w 0 (.slice p.A p.n p.c) p.l) (hw : wfI p.id) (h1 : Old w w1)
  (hG : GrewE Tryz.eC base w1 w' (.slice A n c) A' n' c' (ps ++ [p])) : ChOwn w' base (.slice A' n' c') (ps ++ [p]) := by
 have hown : ∀ q : PC, Own w 0 (.slice q.A q.n q.c) q.l → Own w' 0 (.slice q.A q.n q.c) q.l := fun q hq => by
  have hq2 := hq.below h1
  refine hq2.keep fun g' hg' => ?_
  refine hG.grown.block g' (hq2.lt hg').2 (fun e => ?_)
  obtain ⟨cs, hbk⟩ := OwnE.blk (h.1.below h1) (g := g') e.symm
  exact hq2.ne hbk (by decide) hg'
 refine ⟨hG.own, fun r hr => ?_⟩
 rcases List.mem_append.1 hr with hr | hr
 ·exact ⟨hown r (h.2 r hr).1, (h.2 r hr).2⟩
 ·rw [List.mem_singleton] at hr
  subst hr
  exact ⟨hown _ hp, hw⟩
theorem sload_put (M : List SRec) (x : Int) (b : List UInt8) : sload (sput M x b) ≤ sload M + (b.length + 8) := by
 induction M with
 | nil => simp [sput, sload]
 | cons p M ih =>
  unfold sput
  split
  ·rw [sload_cons, sload_cons]; omega
  ·split
   ·rw [sload_cons, sload_cons]; simp only; omega
   ·rw [sload_cons, sload_cons]; simp only; omega
theorem sload_del (M : List SRec) (x : Int) : sload (sdel M x) ≤ sload M := by
 induction M with
 | nil => simp [sdel, sload]
 | cons p M ih =>
  unfold sdel at ih ⊢
  rw [List.filter_cons]
  split
  ·rw [sload_cons, sload_cons]; omega
  ·rw [sload_cons]; omega
theorem sload_chg (M : List SRec) (x : Int) (d : Bool) (b : List UInt8) : sload (schg M x d b) ≤ sload M + (b.length + 8) := by
 unfold schg
 split
 ·have := sload_del M x; omega
 ·exact sload_put M x b
theorem sload_chgs (N : Nat) : ∀ (cs : List PC) (M : List SRec), (∀ p ∈ cs, p.l.length ≤ N) → sload (schgs M cs) ≤ sload M + cs.length * (N + 8)
 | [], M, _ => by simp [schgs]
 | p :: cs, M, h => by
  have ih := sload_chgs N cs (schg M p.id p.drop p.l) (fun q hq => h q (List.mem_cons_of_mem _ hq))
  have h1 := sload_chg M p.id p.drop p.l
  have h2 := h p List.mem_cons_self
  show sload (schgs (schg M p.id p.drop p.l) cs) ≤ _
  rw [List.length_cons, Nat.succ_mul]
  omega
theorem num_load (M : List SRec) : 8 * M.length ≤ sload M := by
 induction M with
 | nil => simp [sload]
 | cons p M ih => rw [sload_cons, List.length_cons]; omega
theorem schgs_snoc (M : List SRec) (ps : List PC) (p : PC) : schgs M (ps ++ [p]) = schg (schgs M ps) p.id p.drop p.l := by
 unfold schgs
 rw [List.foldl_append]
 rfl
def comV (M : List SRec) (ps : List PC) (room : Nat) : Int := if ps.all okC then (if room < sload (schgs M ps) then 49 else 0) else 7
structure CoI (w wl : World) (rs : List RcV) (cs : List IV) (i : Nat) (A1 : Option Addr) (n1 c1 : Nat) (ps : List PC) (Ax : Option Addr) (nx cx : Nat) (rx : List RcV) : Prop where
 own : ChOwn wl w.heap.size (.slice A1 n1 c1) ps
 map : ps.map PC.ch = (cs.take i).map IV.ch
 mod : RcAt wl 0 (.slice Ax nx cx) rx
 is : recs rx = schgs (recs rs) ps
 old : Old w wl
theorem CoI.num {w wl : World} {rs : List RcV} {cs : List IV} {i n1 c1 nx cx : Nat} {A1 Ax : Option Addr} {ps : List PC} {rx : List RcV} (h : CoI w wl rs cs i A1 n1 c1 ps Ax nx cx rx) : ps.length ≤ i := by
 have := congrArg List.length h.map
 rw [List.length_map, List.length_map, List.length_take] at this
 omega
theorem CoI.len {w wl : World} {rs : List RcV} {cs : List IV} {i n1 c1 nx cx : Nat} {A1 Ax : Option Addr} {ps : List PC} {rx : List RcV} (h : CoI w wl rs cs i A1 n1 c1 ps Ax nx cx rx) : ∀ p ∈ ps, p.l.length ≤ 20000 := fun p hp => by
 have h1 : PC.ch p ∈ ps.map PC.ch := List.mem_map_of_mem hp
 rw [h.map] at h1
 obtain ⟨x, _, hx⟩ := List.mem_map.1 h1
 have h2 : full x.l x.nn = p.l := congrArg (fun t => t.2.2) hx
 rw [← h2, full_len _ _ x.nn_le]
 exact x.nn_le
theorem Rd.loop {w w' : World} {A : Option Addr} {m c x : Nat} {l : List UInt8} (h : Rd w A m c l) (hl : ∃ r, w.heap[x]? = some (.loop r)) (ht : Turn [x] w w') : Rd w' A m c l := by
 obtain ⟨h1, h2, h3, h4⟩ := h
 refine ⟨h1, h2, h3, ?_⟩
 rcases h4 with h4 | ⟨b, off, rfl, hb, hc⟩
 ·exact .inl h4
 ·refine .inr ⟨b, off, rfl, Nat.lt_of_lt_of_le hb ht.size, fun k y hy => ?_⟩
  have hk := hc k y hy
  have hbx : b ≠ x := fun e => by
   subst e
   obtain ⟨r, hr⟩ := hl
   simp [World.cell?, hr] at hk
  exact cell_turn hk ht (by simpa using hbx)
theorem alArg.loop {M : List SRec} {k : Nat} {args : Array Value} {W W' : World} {x : Nat} (h : alArg M k args W) (hl : ∃ r, W.heap[x]? = some (.loop r)) (ht : Turn [x] W W') : alArg M k args W' := by
 obtain ⟨p, A, c, h1, h2, h3⟩ := h
 exact ⟨p, A, c, h1, h2, h3.loop hl ht⟩
theorem alArg.size {M : List SRec} {k : Nat} {args : Array Value} {W : World} (h : alArg M k args W) : args.size = 2 := by
 obtain ⟨p, A, c, h1, rfl, h3⟩ := h
 rfl
structure CntI (w8 : World) (kx : Nat) (k : Nat) (G : List Nat) (W : World) : Prop where
 cnt : Blk W kx 3 #[.int .i64 (k : Int)]
 turn : Turn [kx] w8 W
 new : ∀ x ∈ G, w8.heap.size ≤ x
 lt : kx < w8.heap.size
theorem CntI.hI {w8 : World} {kx k : Nat} {G1 G2 : List Nat} {W1 W2 : World} (h : CntI w8 kx k G1 W1) (ht : Turn G1 W1 W2) (hG : ∀ x ∈ G2, x ∈ G1 ∨ W1.heap.size ≤ x) : CntI w8 kx k G2 W2 :=
 ⟨h.cnt.turn ht (fun hm => by have := h.new _ hm; have := h.lt; omega), h.turn.trans ht (fun x hx => .inr (h.new x hx)), fun x hx => (hG x hx).elim (h.new x) (fun hx => Nat.le_trans h.turn.size hx), h.lt⟩
theorem CntI.hIl {w8 : World} {kx k x : Nat} {G1 : List Nat} {W1 W2 : World} (h : CntI w8 kx k G1 W1) (hx : w8.heap.size ≤ x) (ht : Turn [x] W1 W2) : CntI w8 kx k G1 W2 :=
 ⟨h.cnt.turn ht (fun hm => by simp at hm; have := h.lt; omega), h.turn.trans ht (fun y hy => .inr (by simp at hy; omega)), h.new, h.lt⟩
theorem CntI.start {w8 : World} {kx : Nat} (h : Blk w8 kx 3 #[.int .i64 0]) : CntI w8 kx 0 [] w8 := ⟨h, Turn.refl _ _, by simp, h.lt⟩
theorem wp_rangeCnt {g : Operand} {ps : Array Tmp} {body : Code} {Q : Exit → Act → World → Prop} {a : Act} {w7 w8 : World} {gf : Nat} {lb : Array Value} {M : List SRec} {kx : Nat}
  (hit : IterH Tryz.prog gf lb (alArg M) M.length (fun _ W => Old w7 W) kx) (h78 : Old w7 w8) (hk : Blk w8 kx 3 #[.int .i64 0]) (hg : a.eval g = .func (.func gf) #[] lb) (eg : ∀ args w, (callFunc gf args).run Tryz.prog w = .ok (.enter gf args) w) (hps : ps.size = 2)
  (hbody : ∀ (l k : Nat) (u1 u2 : Value) (W : World) (R : Exit → Act → World → Prop), k < M.length → W.cell? ⟨kx, 0, none⟩ = some (.int .i64 (k : Int)) → W.frozen? ⟨kx, 0, none⟩ = false → (∀ a', R .normal a' (W.setCell ⟨kx, 0, none⟩ (.int .i64 ((k + 1 : Nat) : Int)))) →
   body.wpIn (Fence.wide.inRound l) 2 Tryz.prog R { tmps := (ps.zip #[u1, u2]).foldl (fun t (p, v) => t.setIfInBounds p v) a.tmps, defers := [] } W)
  (hdone : ∀ W : World, w8.heap.size + 1 < W.heap.size → Turn [kx] w8 W → Blk W kx 3 #[.int .i64 (M.length : Int)] → W.heap[w8.heap.size]? = some (.deferred (some [])) → Q .normal { a with defers := { target := .collected w8.heap.size, args := #[] } :: a.defers } W) :
  (Code.rangeFunc g ps .skip body).wp Tryz.prog Q a w8 := by
 have hB : kx < w8.heap.size := hk.lt
 refine wp_rangeH (G := []) hg eg hit (Nat.le_of_lt hB) (fun k args W h => h.size.trans hps.symm) (by simp) (fun k G W => CntI w8 kx k G W) (fun _ _ _ => False) (fun _ _ _ _ _ h => h.elim)
  (fun k G1 G2 W1 W2 h ht hG => h.hI ht hG) (fun k G1 W1 W2 h hl ht => h.hIl (by omega) ht) (fun k args W1 W2 h hl ht => h.loop hl ht) (CntI.start hk) (fun W ht => Old.trans h78 ht.below)
  (fun args => { tmps := (ps.zip args).foldl (fun t (p, v) => t.setIfInBounds p v) a.tmps, defers := [] }) ?_ ?_ ?_ (fun c k W _ _ h => h.elim)
 ·intro l args k W K _ hK
  exact wpIn_skip (show Exit.then K _ .normal _ W from hK)
 ·rintro l k args G1 W hkN hlt hI ⟨pp, Ap, cp, hp, rfl, hr⟩ hd1 hd2 hgs
  have hc := hI.cnt.cell 0
  simp only [List.getElem?_toArray, List.getElem?_cons_zero] at hc
  refine hbody l k _ _ W _ hkN hc (hI.cnt.frozen 0) (fun a' => ⟨⟨[kx], (Turn.refl _ _).setCell (.inl (by simp)) _, by simp; omega, by simp; omega, fun x hx => ?_⟩, ⟨?_, hI.turn.setCell (.inl (by simp)) _, hI.new, hI.lt⟩⟩)
  ·simp at hx
   subst hx
   exact ⟨fun hm => by have := hI.new _ hm; omega, Nat.le_refl _⟩
  ·have := hI.cnt.set_ 0 (.int .i64 ((k + 1 : Nat) : Int))
   simpa using this
 ·intro G1 W hlt hI hK
  exact hdone W hlt hI.turn hI.cnt hK
theorem wp_rangeH2 (q1 q2 : Nat) {P : Program} {g : Operand} {ps : Array Tmp} {assign body : Code} {Q : Exit → Act → World → Prop} {a : Act} {w : World}
  {gf : Nat} {lb : Array Value} {Arg : Nat → Array Value → World → Prop} {N : Nat} {Start : List Nat → World → Prop} {G : List Nat} {B : Nat}
  (hg : a.eval g = .func (.func gf) #[] lb) (eg : ∀ args w, (callFunc gf args).run P w = .ok (.enter gf args) w)
  (hit : IterH P gf lb Arg N Start B) (hB : B ≤ w.heap.size) (hps : ∀ k args W, Arg k args W → args.size = ps.size) (hG : ∀ t ∈ G, t < w.heap.size)
  (I : Nat → List Nat → World → Prop) (Ix : Code → Nat → World → Prop)
  (hIx : ∀ c k W1 W2 S, Ix c k W1 → Turn S W1 W2 → (∀ t ∈ S, t = w.heap.size + 1 ∧ ∃ r, W1.heap[t]? = some (.loop r)) → Ix c k W2)
  (hI : ∀ k G1 G2 W1 W2, I k G1 W1 → Turn G1 W1 W2 → (∀ x ∈ G2, x ∈ G1 ∨ W1.heap.size ≤ x) → I k G2 W2)
  (hIl : ∀ k G1 W1 W2, I k G1 W1 → (∃ r, W1.heap[w.heap.size + 1]? = some (.loop r)) → Turn [w.heap.size + 1] W1 W2 → I k G1 W2)
  (hA : ∀ k args W1 W2, Arg k args W1 → (∃ r, W1.heap[w.heap.size + 1]? = some (.loop r)) → Turn [w.heap.size + 1] W1 W2 → Arg k args W2)
  (h0 : I 0 G w) (hS1 : ∀ W, Turn [] w W → Start G W)
  (hassign : ∀ (l : Nat) (args : Array Value) (k : Nat) (W : World) (K : Act → World → Prop), Arg k args W → K { tmps := (((ps.zip args).foldl (fun t (p, v) => t.setIfInBounds p v) a.tmps).setIfInBounds q1 (args.getD 0 undef)).setIfInBounds q2 (args.getD 1 undef), defers := [] } W →
   assign.wpIn (Fence.wide.inRound l) 2 P (Exit.then K (fun _ _ _ => False)) { tmps := (ps.zip args).foldl (fun t (p, v) => t.setIfInBounds p v) a.tmps, defers := [] } W)
  (hbody : ∀ (l k : Nat) (args : Array Value) (G1 : List Nat) (W : World), k < N → w.heap.size + 1 < W.heap.size → I k G1 W → Arg k args W → w.heap.size ∉ G1 → w.heap.size + 1 ∉ G1 → (∀ x ∈ G1, x < W.heap.size) → body.wpIn (Fence.wide.inRound l) 2 P (roundEndsH w.heap.size I Ix k G1 B W) { tmps := (((ps.zip args).foldl (fun t (p, v) => t.setIfInBounds p v) a.tmps).setIfInBounds q1 (args.getD 0 undef)).setIfInBounds q2 (args.getD 1 undef), defers := [] } W)
  (hdone : ∀ (G1 : List Nat) (W : World), w.heap.size + 1 < W.heap.size → I N G1 W → W.heap[w.heap.size]? = some (.deferred (some [])) → Q .normal { a with defers := { target := .collected w.heap.size, args := #[] } :: a.defers } W)
  (hstop : ∀ (c : Code) (k : Nat) (W : World), w.heap.size + 1 < W.heap.size → k < N → Ix c k W → W.heap[w.heap.size]? = some (.deferred (some [])) → c.wp P Q { a with defers := { target := .collected w.heap.size, args := #[] } :: a.defers } W) :
  (Code.rangeFunc g ps assign body).wp P Q a w :=
 wp_rangeH hg eg hit hB hps hG I Ix hIx hI hIl hA h0 hS1 (fun args => { tmps := (((ps.zip args).foldl (fun t (p, v) => t.setIfInBounds p v) a.tmps).setIfInBounds q1 (args.getD 0 undef)).setIfInBounds q2 (args.getD 1 undef), defers := [] }) hassign hbody hdone hstop
end Go.Proofs.YtgjnmpjimhbfgaaGreatDoor
