/-
  Modes: the counter block counted up: step, and the document's next.
-/
import Derived.Test.YtgjnmpjimhbfgaaGreatDoorMo3
import Derived.Test.YtgjnmpjimhbfgaaGreatDoorZzAesBx
namespace Go.Proofs.YtgjnmpjimhbfgaaGreatDoor
set_option maxRecDepth 100000
open Go.RowKit
def cntB (n : Nat) : UInt8 := UInt8.ofNat (2 ^ n - 1)
theorem andNot_B (t : TypeId) (x y : UInt8) : binOp .andNot t (B x) (B y) = pure (B (x &&& ~~~y)) := by
 show (pure (.int .u8 (IntKind.u8.wrap (BitVec.toNat (BitVec.ofInt 8 (x.toNat : Int) &&& ~~~BitVec.ofInt 8 (y.toNat : Int))))) : Sem Value) = _
 rw [wrap_u8, ← B_eq]
 have e : ∀ z : UInt8, BitVec.ofInt 8 (z.toNat : Int) = z.toBitVec := fun z => by
  apply BitVec.eq_of_toNat_eq
  have := z.toNat_lt
  simp
 rw [e, e]
 have h : (x &&& ~~~y).toNat = (x.toBitVec &&& ~~~y.toBitVec).toNat := rfl
 have := (x &&& ~~~y).toNat_lt
 rw [← h]
 omega
theorem cnt_lit (n : Nat) (h : n ≤ 8) : Value.int .u8 (((2 : Int) ^ n - 1) % 256) = B (cntB n) := by
 have : n = 0 ∨ n = 1 ∨ n = 2 ∨ n = 3 ∨ n = 4 ∨ n = 5 ∨ n = 6 ∨ n = 7 ∨ n = 8 := by omega
 rcases this with rfl | rfl | rfl | rfl | rfl | rfl | rfl | rfl | rfl <;> rfl
def nxB (n : Nat) (x : UInt8) : UInt8 := (x &&& ~~~cntB n) ||| ((x + 1) &&& cntB n)
def goB (n : Nat) (x : UInt8) : Bool := isN ((x + 1) &&& cntB n) 0
def stepF : Nat → Nat → List UInt8 → List UInt8
 | 0, _, l => l
 | i + 1, left, l => if left = 0 then l else
   if goB (min left 8) (l.getD i 0) = true then stepF i (left - min left 8) (l.set i (nxB (min left 8) (l.getD i 0))) else l.set i (nxB (min left 8) (l.getD i 0))
def stepL (wd : Nat) (l : List UInt8) : List UInt8 := stepF 16 wd l
theorem stepF_len (i : Nat) : ∀ (left : Nat) (l : List UInt8), (stepF i left l).length = l.length := by
 induction i with
 | zero => intro left l; rfl
 | succ i ih =>
  intro left l
  unfold stepF
  split
  ·rfl
  ·split
   ·rw [ih]; simp
   ·simp
theorem stepL_len (wd : Nat) (l : List UInt8) : (stepL wd l).length = l.length := stepF_len _ _ _
def CtrAt (w : World) (g o : Nat) (l : List UInt8) : Prop := l.length = 16 ∧ ∃ cur : Array Value, Blk w g 5 cur ∧ ∀ k x, l[k]? = some x → cur[o + k]? = some (B x)
theorem CtrAt.lt {w : World} {g o : Nat} {l : List UInt8} (h : CtrAt w g o l) : g < w.heap.size := by obtain ⟨_, cur, hb, _⟩ := h; exact hb.lt
theorem CtrAt.rd {w : World} {g o : Nat} {l : List UInt8} (h : CtrAt w g o l) (c : Nat) (hc : 16 ≤ c) (hm : c ≤ maxLen) : Rd w (some ⟨g, o, none⟩) 16 c l := by
 obtain ⟨hl, cur, hb, hx⟩ := h
 exact ⟨hl.symm, hc, hm, .inr ⟨g, o, rfl, hb.lt, fun k x h => by rw [hb.cell]; exact hx k x h⟩⟩
theorem CtrAt.cell {w : World} {g o : Nat} {l : List UInt8} (h : CtrAt w g o l) {k : Nat} {x : UInt8} (hk : l[k]? = some x) : w.cell? ⟨g, o + k, none⟩ = some (B x) := by
 obtain ⟨hl, cur, hb, hx⟩ := h
 rw [hb.cell]; exact hx k x hk
theorem CtrAt.frozen {w : World} {g o : Nat} {l : List UInt8} (h : CtrAt w g o l) (k : Nat) : w.frozen? ⟨g, k, none⟩ = false := by
 obtain ⟨hl, cur, hb, hx⟩ := h
 exact hb.frozen k
theorem CtrAt.keep {w w' : World} {g o : Nat} {l : List UInt8} (h : CtrAt w g o l) (hk : w'.heap[g]? = w.heap[g]?) : CtrAt w' g o l := by
 obtain ⟨hl, cur, hb, hx⟩ := h
 exact ⟨hl, cur, hb.keep hk, hx⟩
theorem CtrAt.turn {w w' : World} {S : List Nat} {g o : Nat} {l : List UInt8} (h : CtrAt w g o l) (ht : Turn S w w') (hn : g ∉ S) : CtrAt w' g o l := h.keep (ht.block _ h.lt hn)
theorem CtrAt.below {w w' : World} {g o : Nat} {l : List UInt8} (h : CtrAt w g o l) (ht : Old w w') : CtrAt w' g o l := h.keep (ht.block _ h.lt)
theorem CtrAt.set_ {w : World} {g o : Nat} {l : List UInt8} (h : CtrAt w g o l) (i : Nat) (y : UInt8) : CtrAt (w.setCell ⟨g, o + i, none⟩ (B y)) g o (l.set i y) := by
 obtain ⟨hl, cur, hb, hx⟩ := h
 refine ⟨by simp [hl], _, hb.set_ _ _, fun k x hk => ?_⟩
 rw [List.getElem?_set] at hk
 rw [Array.getElem?_setIfInBounds]
 by_cases e : i = k
 ·subst e
  rw [if_pos rfl] at hk ⊢
  split at hk
  ·rename_i h9
   cases hk
   have h8 := hx i l[i] (by rw [List.getElem?_eq_getElem h9])
   have h7 : o + i < cur.size := by
    rcases Nat.lt_or_ge (o + i) cur.size with h6 | h6
    ·exact h6
    ·rw [Array.getElem?_eq_none h6] at h8; cases h8
   rw [if_pos h7]
  ·cases hk
 ·rw [if_neg e] at hk
  rw [if_neg (by omega)]
  exact hx k x hk
theorem CtrAt.of_own {w : World} {base g n c : Nat} {l : List UInt8} (h : Own w base (.slice (some ⟨g, 0, none⟩) n c) l) (o : Nat) (h16 : n = o + 16) : CtrAt w g o (l.drop o) := by
 obtain ⟨e1, e2, e3, e4, cur, hh, hcl, hct⟩ := h.blk
 refine ⟨by rw [List.length_drop]; omega, cur.toArray, hh, fun k x hk => ?_⟩
 rw [List.getElem?_drop] at hk
 have h5 : (cur.take n)[o + k]? = some (B x) := by rw [hct, List.getElem?_map, hk]; rfl
 rw [List.getElem?_take] at h5
 split at h5
 ·simpa using h5
 ·cases h5
theorem CtrAt.ne_ {w : World} {g o : Nat} {l : List UInt8} (h : CtrAt w g o l) {g' : Nat} {t' : TypeId} {cs' : Array Value} (h' : Blk w g' t' cs') (hne : 5 ≠ t') : g ≠ g' := by
 obtain ⟨hl, cur, hb, hx⟩ := h
 exact hb.ne_ h' hne
attribute [local go_sem] addI_B andNot_B
set_option maxHeartbeats 1000000 in
theorem step_any (d gc oc cc wd : Nat) (cs : Array Value) (l : List UInt8) (w : World) (hd : Blk w d 139 cs) (h5 : cs[5]? = some (.slice (some ⟨gc, oc, none⟩) 16 cc)) (h6 : cs[6]? = some (.int .i64 (wd : Int))) (hc : CtrAt w gc oc l) (_hcc : 16 ≤ cc) (hw : wd ≤ 1000) :
  Calls Tryz.prog 110 #[.pointer (some ⟨d, 0, none⟩)] w fun e w' => e = .returned (.tuple #[]) ∧ CtrAt w' gc oc (stepL wd l) ∧ Turn [gc] w w' := by
 have hne : d ∉ [gc] := by simp; exact (hc.ne_ hd (by decide)).symm
 have c6 := hd.cell 6
 rw [h6] at c6
 have H := Lib.hid (And.intro hd (And.intro h5 (And.intro hc hne)))
 clear hd h5 h6 hc hne
 go_enter Tryz.func110, Tryz.ntmps110
 go_wp2_with fail
 clear c6
 go_loopw [2, 3] (fun vl vi wr => ∃ (k left : Nat) (l' : List UInt8), vl = .int .i64 (left : Int) ∧ vi = .int .i64 ((k : Int) - 1) ∧ k ≤ 16 ∧ left ≤ 1000 ∧ CtrAt wr gc oc l' ∧ stepF k left l' = stepL wd l ∧ Turn [gc] w wr) (fun _ vi _ => (intOf vi + 1).toNat)
 case atStart => exact ⟨16, wd, l, rfl, rfl, by omega, hw, H.out.2.2.1, rfl, Turn.refl _ _⟩
 case round =>
  obtain ⟨k, left, l', rfl, rfl, hk, hleft, hC, hS, hT⟩ := hrel
  rcases k with _ | i
  ·have h0 : ¬ (((0 : Nat) : Int) - 1 ≥ 0) := by omega
   have hx : stepL wd l = l' := hS.symm
   have HX := Lib.hid (And.intro hx (And.intro hC hT))
   clear hx hC hS hT
   go_wp2_with fail
   go_end0
   exact ⟨rfl, by rw [HX.out.1]; exact HX.out.2.1, HX.out.2.2⟩
  ·by_cases hl0 : left = 0
   ·subst hl0
    have hx : stepL wd l = l' := by rw [← hS]; unfold stepF; rw [if_pos rfl]
    have HX := Lib.hid (And.intro hx (And.intro hC hT))
    clear hx hC hS hT
    go_wp2_with fail
    go_end0
    exact ⟨rfl, by rw [HX.out.1]; exact HX.out.2.1, HX.out.2.2⟩
   ·have e1 : (((i + 1 : Nat) : Int) - 1) = (i : Int) := by omega
    have hi : i < 16 := by omega
    have hi16 : (i : Int) < 16 := by omega
    have hi0 : (i : Int) ≥ 0 := by omega
    have hlp : (left : Int) > 0 := by omega
    obtain ⟨n, hn⟩ : ∃ n, min left 8 = n := ⟨_, rfl⟩
    have hn8 : n ≤ 8 := by omega
    have hnl : n ≤ left := by omega
    have hnp : 0 < n := by omega
    obtain ⟨x, hx⟩ : ∃ x, l'[i]? = some x := ⟨_, List.getElem?_eq_getElem (by rw [hC.1]; exact hi)⟩
    have hxd : l'.getD i 0 = x := by rw [List.getD_eq_getElem?_getD, hx]; rfl
    have hS' : stepL wd l = if goB n x = true then stepF i (left - n) (l'.set i (nxB n x)) else l'.set i (nxB n x) := by
     rw [← hS]; show (if left = 0 then _ else _) = _; rw [if_neg hl0, hn, hxd]
    have y5 := (H.out.1.turn hT H.out.2.2.2).cell 5
    rw [H.out.2.1] at y5
    have y0 := hC.cell hx
    have f0 := hC.frozen (oc + i)
    have hset : CtrAt ((wr.setCell ⟨gc, oc + i, none⟩ (B (nxB n x))).drew) gc oc (l'.set i (nxB n x)) := hC.set_ i _
    have hT' : Turn [gc] w ((wr.setCell ⟨gc, oc + i, none⟩ (B (nxB n x))).drew) := (hT.setCell (p := ⟨gc, oc + i, none⟩) (.inl (by simp)) _).drew
    have HX := Lib.hid (And.intro hS' (And.intro hset (And.intro hT' hk)))
    rw [e1]
    have hwi : IntKind.i64.wrap ((i : Int) - 1) = (i : Int) - 1 := IntWalk.i64_in _ (by omega)
    by_cases h8 : (8 : Int) < left
    ·obtain rfl : n = 8 := by omega
     have s3 : Value.int .u8 255 = B (cntB 8) := rfl
     have hsub : Value.int .i64 (IntKind.i64.wrap ((left : Int) - 8)) = Value.int .i64 ((left - 8 : Nat) : Int) := by rw [IntWalk.i64_in _ (by omega)]; congr 1; omega
     clear hC hS hT hn hn8 hnp hxd hS' hset hT' e1 hl0 hx hk
     cases hg : goB 8 x with
     | true =>
      have hg' : isN ((x + 1) &&& cntB 8) 0 = true := hg
      have h1 := HX.out.1
      rw [if_pos hg] at h1
      have HY := Lib.hid (And.intro h1 HX.out.2)
      clear HX h1 hg
      go_wp2_with fail
      go_still_tail 19, (by kernel_rfl)
      go_wp2_with fail
      go_roundw
      case rel => exact ⟨i, left - 8, _, rfl, rfl, by omega, by omega, HY.out.2.1, HY.out.1.symm, HY.out.2.2.1⟩
      case measure => simp [intOf]
     | false =>
      have hg' : isN ((x + 1) &&& cntB 8) 0 = false := hg
      have h1 := HX.out.1
      rw [if_neg (by rw [hg]; decide)] at h1
      have HY := Lib.hid (And.intro h1 HX.out.2)
      clear HX h1 hg
      go_wp2_with fail
      go_still_tail 19, (by kernel_rfl)
      go_wp2_with fail
      try simp only [Exit.inBlock, Exit.then]
      refine bodyPost_ret (results_none rfl _ _ _) rfl ?_
      exact ⟨rfl, by rw [HY.out.1]; exact HY.out.2.1, HY.out.2.2.1⟩
    ·obtain rfl : n = left := by omega
     have s3 := cnt_lit n hn8
     have hsub : Value.int .i64 (IntKind.i64.wrap ((n : Int) - n)) = Value.int .i64 0 := by rw [Int.sub_self]; rfl
     clear hC hS hT hn hxd hS' hset hT' e1 hl0 hx hk
     cases hg : goB n x with
     | true =>
      have hg' : isN ((x + 1) &&& cntB n) 0 = true := hg
      have h1 := HX.out.1
      rw [if_pos hg] at h1
      have HY := Lib.hid (And.intro h1 HX.out.2)
      clear HX h1 hg
      go_wp2_with fail
      go_still_tail 19, (by kernel_rfl)
      go_wp2_with fail
      go_roundw
      case rel => exact ⟨i, 0, _, rfl, rfl, by omega, by omega, HY.out.2.1, by have := HY.out.1.symm; rwa [Nat.sub_self] at this, HY.out.2.2.1⟩
      case measure => simp [intOf]
     | false =>
      have hg' : isN ((x + 1) &&& cntB n) 0 = false := hg
      have h1 := HX.out.1
      rw [if_neg (by rw [hg]; decide)] at h1
      have HY := Lib.hid (And.intro h1 HX.out.2)
      clear HX h1 hg
      go_wp2_with fail
      go_still_tail 19, (by kernel_rfl)
      go_wp2_with fail
      try simp only [Exit.inBlock, Exit.then]
      refine bodyPost_ret (results_none rfl _ _ _) rfl ?_
      exact ⟨rfl, by rw [HY.out.1]; exact HY.out.2.1, HY.out.2.2.1⟩
end Go.Proofs.YtgjnmpjimhbfgaaGreatDoor
