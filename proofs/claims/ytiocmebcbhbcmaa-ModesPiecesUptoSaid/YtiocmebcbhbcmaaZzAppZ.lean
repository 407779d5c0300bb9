/-
  Modes: the counter block counted up: step, and the document's next.
  Blocks that hold no bytes; rows beside them.
  Modes: bytes against bytes, of any length: the program's xored, the reference's Xor.
  append of zeros: 'append(b, make([]byte, k)...)'.
-/
import Derived.Test.YtiocmebcbhbcmaaZzWordsB
import Derived.Test.YtiocmebcbhbcmaaZzAesR1
import Derived.Test.YtiocmebcbhbcmaaZzReg
import Derived.Test.YtiocmebcbhbcmaaZzAesY
import Derived.Lib.AppendZerosOnto
namespace Go.Proofs.Ytiocmebcbhbcmaa
set_option maxRecDepth 100000
open Go.RowKit

def cntB (n : Nat) : UInt8 := UInt8.ofNat (2 ^ n - 1)
theorem andNot_B (t : TypeId) (x y : UInt8) : binOp .andNot t (B x) (B y) = pure (B (x &&& ~~~y)) := by
  show (pure (.int .u8 (IntKind.u8.wrap (BitVec.toNat (BitVec.ofInt 8 (x.toNat : Int) &&& ~~~BitVec.ofInt 8 (y.toNat : Int))))) : Sem Value) = _
  rw [wrap_u8, ← B_eq]
  have e : ∀ z : UInt8, BitVec.ofInt 8 (z.toNat : Int) = z.toBitVec := fun z => by
    apply BitVec.eq_of_toNat_eq
    have := z.toNat_lt
    simp
  rw [e, e]
  have h : (x &&& ~~~y).toNat = (x.toBitVec &&& ~~~y.toBitVec).toNat := rfl
  have := (x &&& ~~~y).toNat_lt
  rw [← h]
  omega
theorem cnt_lit (n : Nat) (h : n ≤ 8) : Value.int .u8 (((2 : Int) ^ n - 1) % 256) = B (cntB n) := by
  have : n = 0 ∨ n = 1 ∨ n = 2 ∨ n = 3 ∨ n = 4 ∨ n = 5 ∨ n = 6 ∨ n = 7 ∨ n = 8 := by omega
  rcases this with rfl | rfl | rfl | rfl | rfl | rfl | rfl | rfl | rfl <;> rfl
/-- A byte counted up in those bits. -/
def nxB (n : Nat) (x : UInt8) : UInt8 := (x &&& ~~~cntB n) ||| ((x + 1) &&& cntB n)
def goB (n : Nat) (x : UInt8) : Bool := isN ((x + 1) &&& cntB n) 0
/-- The block counted up: i bytes from the front are left. -/
def stepF : Nat → Nat → List UInt8 → List UInt8
  | 0, _, l => l
  | i + 1, left, l => if left = 0 then l else
      if goB (min left 8) (l.getD i 0) = true then stepF i (left - min left 8) (l.set i (nxB (min left 8) (l.getD i 0))) else l.set i (nxB (min left 8) (l.getD i 0))
def stepL (wd : Nat) (l : List UInt8) : List UInt8 := stepF 16 wd l
theorem stepF_len (i : Nat) : ∀ (left : Nat) (l : List UInt8), (stepF i left l).length = l.length := by
  induction i with
  | zero => intro left l; rfl
  | succ i ih =>
    intro left l
    unfold stepF
    split
    · rfl
    · split
      · rw [ih]; simp
      · simp
theorem stepL_len (wd : Nat) (l : List UInt8) : (stepL wd l).length = l.length := stepF_len _ _ _

/-- A counter block in memory, that is written in place. -/
def CtrAt (w : World) (g o : Nat) (l : List UInt8) : Prop := l.length = 16 ∧ ∃ cur : Array Value, Blk w g 5 cur ∧ ∀ k x, l[k]? = some x → cur[o + k]? = some (B x)
theorem CtrAt.lt {w : World} {g o : Nat} {l : List UInt8} (h : CtrAt w g o l) : g < w.heap.size := by obtain ⟨_, cur, hb, _⟩ := h; exact hb.lt
theorem CtrAt.rd {w : World} {g o : Nat} {l : List UInt8} (h : CtrAt w g o l) (c : Nat) (hc : 16 ≤ c) (hm : c ≤ maxLen) : Rd w (some ⟨g, o, none⟩) 16 c l := by
  obtain ⟨hl, cur, hb, hx⟩ := h
  exact ⟨hl.symm, hc, hm, .inr ⟨g, o, rfl, hb.lt, fun k x h => by rw [hb.cell]; exact hx k x h⟩⟩
theorem CtrAt.cell {w : World} {g o : Nat} {l : List UInt8} (h : CtrAt w g o l) {k : Nat} {x : UInt8} (hk : l[k]? = some x) : w.cell? ⟨g, o + k, none⟩ = some (B x) := by
  obtain ⟨hl, cur, hb, hx⟩ := h
  rw [hb.cell]; exact hx k x hk
theorem CtrAt.frozen {w : World} {g o : Nat} {l : List UInt8} (h : CtrAt w g o l) (k : Nat) : w.frozen? ⟨g, k, none⟩ = false := by
  obtain ⟨hl, cur, hb, hx⟩ := h
  exact hb.frozen k
theorem CtrAt.keep {w w' : World} {g o : Nat} {l : List UInt8} (h : CtrAt w g o l) (hk : w'.heap[g]? = w.heap[g]?) : CtrAt w' g o l := by
  obtain ⟨hl, cur, hb, hx⟩ := h
  exact ⟨hl, cur, hb.keep hk, hx⟩
theorem CtrAt.turn {w w' : World} {S : List Nat} {g o : Nat} {l : List UInt8} (h : CtrAt w g o l) (ht : Turn S w w') (hn : g ∉ S) : CtrAt w' g o l := h.keep (ht.block _ h.lt hn)
theorem CtrAt.below {w w' : World} {g o : Nat} {l : List UInt8} (h : CtrAt w g o l) (ht : Old w w') : CtrAt w' g o l := h.keep (ht.block _ h.lt)
theorem CtrAt.set_ {w : World} {g o : Nat} {l : List UInt8} (h : CtrAt w g o l) (i : Nat) (y : UInt8) : CtrAt (w.setCell ⟨g, o + i, none⟩ (B y)) g o (l.set i y) := by
  obtain ⟨hl, cur, hb, hx⟩ := h
  refine ⟨by simp [hl], _, hb.set_ _ _, fun k x hk => ?_⟩
  rw [List.getElem?_set] at hk
  rw [Array.getElem?_setIfInBounds]
  by_cases e : i = k
  · subst e
    rw [if_pos rfl] at hk ⊢
    split at hk
    · rename_i h9
      cases hk
      have h8 := hx i l[i] (by rw [List.getElem?_eq_getElem h9])
      have h7 : o + i < cur.size := by
        rcases Nat.lt_or_ge (o + i) cur.size with h6 | h6
        · exact h6
        · rw [Array.getElem?_eq_none h6] at h8; cases h8
      rw [if_pos h7]
    · cases hk
  · rw [if_neg e] at hk
    rw [if_neg (by omega)]
    exact hx k x hk
theorem CtrAt.of_own {w : World} {base g n c : Nat} {l : List UInt8} (h : Own w base (.slice (some ⟨g, 0, none⟩) n c) l) (o : Nat) (h16 : n = o + 16) : CtrAt w g o (l.drop o) := by
  obtain ⟨e1, e2, e3, e4, cur, hh, hcl, hct⟩ := h.blk
  refine ⟨by rw [List.length_drop]; omega, cur.toArray, hh, fun k x hk => ?_⟩
  rw [List.getElem?_drop] at hk
  have h5 : (cur.take n)[o + k]? = some (B x) := by rw [hct, List.getElem?_map, hk]; rfl
  rw [List.getElem?_take] at h5
  split at h5
  · simpa using h5
  · cases h5
theorem CtrAt.ne_ {w : World} {g o : Nat} {l : List UInt8} (h : CtrAt w g o l) {g' : Nat} {t' : TypeId} {cs' : Array Value} (h' : Blk w g' t' cs') (hne : 5 ≠ t') : g ≠ g' := by
  obtain ⟨hl, cur, hb, hx⟩ := h
  exact hb.ne_ h' hne

attribute [local go_sem] addI_B andNot_B
set_option maxHeartbeats 1000000 in
theorem step_any (d gc oc cc wd : Nat) (cs : Array Value) (l : List UInt8) (w : World) (hd : Blk w d 59 cs) (h5 : cs[5]? = some (.slice (some ⟨gc, oc, none⟩) 16 cc)) (h6 : cs[6]? = some (.int .i64 (wd : Int))) (hc : CtrAt w gc oc l) (hcc : 16 ≤ cc) (hw : wd ≤ 1000) :
    Calls Try.prog 66 #[.pointer (some ⟨d, 0, none⟩)] w fun e w' => e = .returned (.tuple #[]) ∧ CtrAt w' gc oc (stepL wd l) ∧ Turn [gc] w w' := by
  have hne : d ∉ [gc] := by simp; exact (hc.ne_ hd (by decide)).symm
  have c6 := hd.cell 6
  rw [h6] at c6
  have H := Lib.hid (And.intro hd (And.intro h5 (And.intro hc hne)))
  clear hd h5 h6 hc hne
  go_enter Try.func66, Try.ntmps66
  go_wp2_with fail
  clear c6
  go_loopw [2, 3] (fun vl vi wr => ∃ (k left : Nat) (l' : List UInt8), vl = .int .i64 (left : Int) ∧ vi = .int .i64 ((k : Int) - 1) ∧ k ≤ 16 ∧ left ≤ 1000 ∧ CtrAt wr gc oc l' ∧ stepF k left l' = stepL wd l ∧ Turn [gc] w wr) (fun _ vi _ => (intOf vi + 1).toNat)
  case atStart => exact ⟨16, wd, l, rfl, rfl, by omega, hw, H.out.2.2.1, rfl, Turn.refl _ _⟩
  case round =>
    obtain ⟨k, left, l', rfl, rfl, hk, hleft, hC, hS, hT⟩ := hrel
    rcases k with _ | i
    · have h0 : ¬ (((0 : Nat) : Int) - 1 ≥ 0) := by omega
      have hx : stepL wd l = l' := hS.symm
      have HX := Lib.hid (And.intro hx (And.intro hC hT))
      clear hx hC hS hT
      go_wp2_with fail
      go_end0
      exact ⟨rfl, by rw [HX.out.1]; exact HX.out.2.1, HX.out.2.2⟩
    · by_cases hl0 : left = 0
      · subst hl0
        have hx : stepL wd l = l' := by rw [← hS]; unfold stepF; rw [if_pos rfl]
        have HX := Lib.hid (And.intro hx (And.intro hC hT))
        clear hx hC hS hT
        go_wp2_with fail
        go_end0
        exact ⟨rfl, by rw [HX.out.1]; exact HX.out.2.1, HX.out.2.2⟩
      · have e1 : (((i + 1 : Nat) : Int) - 1) = (i : Int) := by omega
        have hi : i < 16 := by omega
        have hi16 : (i : Int) < 16 := by omega
        have hi0 : (i : Int) ≥ 0 := by omega
        have hlp : (left : Int) > 0 := by omega
        obtain ⟨n, hn⟩ : ∃ n, min left 8 = n := ⟨_, rfl⟩
        have hn8 : n ≤ 8 := by omega
        have hnl : n ≤ left := by omega
        have hnp : 0 < n := by omega
        obtain ⟨x, hx⟩ : ∃ x, l'[i]? = some x := ⟨_, List.getElem?_eq_getElem (by rw [hC.1]; exact hi)⟩
        have hxd : l'.getD i 0 = x := by rw [List.getD_eq_getElem?_getD, hx]; rfl
        have hS' : stepL wd l = if goB n x = true then stepF i (left - n) (l'.set i (nxB n x)) else l'.set i (nxB n x) := by
          rw [← hS]; show (if left = 0 then _ else _) = _; rw [if_neg hl0, hn, hxd]
        have y5 := (H.out.1.turn hT H.out.2.2.2).cell 5
        rw [H.out.2.1] at y5
        have y0 := hC.cell hx
        have f0 := hC.frozen (oc + i)
        have hset : CtrAt ((wr.setCell ⟨gc, oc + i, none⟩ (B (nxB n x))).drew) gc oc (l'.set i (nxB n x)) := hC.set_ i _
        have hT' : Turn [gc] w ((wr.setCell ⟨gc, oc + i, none⟩ (B (nxB n x))).drew) := (hT.setCell (p := ⟨gc, oc + i, none⟩) (.inl (by simp)) _).drew
        have HX := Lib.hid (And.intro hS' (And.intro hset (And.intro hT' hk)))
        rw [e1]
        have hwi : IntKind.i64.wrap ((i : Int) - 1) = (i : Int) - 1 := IntWalk.i64_in _ (by omega)
        by_cases h8 : (8 : Int) < left
        · obtain rfl : n = 8 := by omega
          have s3 : Value.int .u8 255 = B (cntB 8) := rfl
          have hsub : Value.int .i64 (IntKind.i64.wrap ((left : Int) - 8)) = Value.int .i64 ((left - 8 : Nat) : Int) := by rw [IntWalk.i64_in _ (by omega)]; congr 1; omega
          clear hC hS hT hn hn8 hnp hxd hS' hset hT' e1 hl0 hx hk
          cases hg : goB 8 x with
          | true =>
            have hg' : isN ((x + 1) &&& cntB 8) 0 = true := hg
            have h1 := HX.out.1
            rw [if_pos hg] at h1
            have HY := Lib.hid (And.intro h1 HX.out.2)
            clear HX h1 hg
            go_wp2_with fail
            go_still_tail 19, (by kernel_rfl)
            go_wp2_with fail
            go_roundw
            case rel => exact ⟨i, left - 8, _, rfl, rfl, by omega, by omega, HY.out.2.1, HY.out.1.symm, HY.out.2.2.1⟩
            case measure => simp [intOf]
          | false =>
            have hg' : isN ((x + 1) &&& cntB 8) 0 = false := hg
            have h1 := HX.out.1
            rw [if_neg (by rw [hg]; decide)] at h1
            have HY := Lib.hid (And.intro h1 HX.out.2)
            clear HX h1 hg
            go_wp2_with fail
            go_still_tail 19, (by kernel_rfl)
            go_wp2_with fail
            try simp only [Exit.inBlock, Exit.then]
            refine bodyPost_ret (results_none rfl _ _ _) rfl ?_
            exact ⟨rfl, by rw [HY.out.1]; exact HY.out.2.1, HY.out.2.2.1⟩
        · obtain rfl : n = left := by omega
          have s3 := cnt_lit n hn8
          have hsub : Value.int .i64 (IntKind.i64.wrap ((n : Int) - n)) = Value.int .i64 0 := by rw [Int.sub_self]; rfl
          clear hC hS hT hn hxd hS' hset hT' e1 hl0 hx hk
          cases hg : goB n x with
          | true =>
            have hg' : isN ((x + 1) &&& cntB n) 0 = true := hg
            have h1 := HX.out.1
            rw [if_pos hg] at h1
            have HY := Lib.hid (And.intro h1 HX.out.2)
            clear HX h1 hg
            go_wp2_with fail
            go_still_tail 19, (by kernel_rfl)
            go_wp2_with fail
            go_roundw
            case rel => exact ⟨i, 0, _, rfl, rfl, by omega, by omega, HY.out.2.1, by have := HY.out.1.symm; rwa [Nat.sub_self] at this, HY.out.2.2.1⟩
            case measure => simp [intOf]
          | false =>
            have hg' : isN ((x + 1) &&& cntB n) 0 = false := hg
            have h1 := HX.out.1
            rw [if_neg (by rw [hg]; decide)] at h1
            have HY := Lib.hid (And.intro h1 HX.out.2)
            clear HX h1 hg
            go_wp2_with fail
            go_still_tail 19, (by kernel_rfl)
            go_wp2_with fail
            try simp only [Exit.inBlock, Exit.then]
            refine bodyPost_ret (results_none rfl _ _ _) rfl ?_
            exact ⟨rfl, by rw [HY.out.1]; exact HY.out.2.1, HY.out.2.2.1⟩
end Go.Proofs.Ytiocmebcbhbcmaa
namespace Go.Proofs.Ytiocmebcbhbcmaa
open Go.RowKit

/-- No cell of that block is a byte. -/
def NoB (w : World) (g : Nat) : Prop := ∃ t cs, Blk w g t cs ∧ ∀ u ∈ cs.toList, ∀ x : UInt8, u ≠ B x
theorem NoB.below {w w' : World} {g : Nat} (h : NoB w g) (hb : Below w.heap.size w w') : NoB w' g := by
  obtain ⟨t, cs, h1, h2⟩ := h
  exact ⟨t, cs, h1.below hb, h2⟩
theorem NoB.ne {w : World} {g : Nat} (h : NoB w g) {A : Option Addr} {m c : Nat} {l : List UInt8} (hr : Rd w A m c l) (hm : 0 < m) : ∀ ad, A = some ad → ad.block ≠ g := by
  intro ad had e
  obtain ⟨t, cs, h1, h2⟩ := h
  obtain ⟨b, off, hA, hat⟩ := hr.addr hm
  rw [had] at hA
  injection hA with hA
  subst hA
  simp only at e
  subst e
  have hl : 0 < l.length := by rw [← hr.1]; exact hm
  have hc := hat.cell hl
  rw [h1.cell] at hc
  exact h2 _ (Array.mem_toList_iff.2 (Array.mem_of_getElem? hc)) _ rfl
theorem Rd.turnN {w w' : World} {A : Option Addr} {m c : Nat} {l : List UInt8} {S : List Nat} (h : Rd w A m c l) (hm : 0 < m) (ht : Turn S w w') (hS : ∀ g ∈ S, NoB w g) : Rd w' A m c l :=
  h.turn ht fun ad had hin => (hS _ hin).ne h hm ad had rfl
/-- Struct cells that are no bytes: for decide. -/
def Value.noByte : Value → Bool
  | .int .u8 _ => false
  | _ => true
theorem noByte_ne {u : Value} (h : Value.noByte u = true) (x : UInt8) : u ≠ B x := by
  intro e
  subst e
  exact absurd h (by simp [B, Value.noByte])
theorem NoB.of {w : World} {g : Nat} {t : TypeId} {cs : Array Value} (h : Blk w g t cs) (hc : cs.toList.all Value.noByte = true) : NoB w g :=
  ⟨t, cs, h, fun u hu x => noByte_ne (List.all_eq_true.1 hc u hu) x⟩
end Go.Proofs.Ytiocmebcbhbcmaa
namespace Go.Proofs.Ytiocmebcbhbcmaa
open Go.RowKit

theorem xorL_lenLe (l k : List UInt8) (n : Nat) (h1 : l.length = n) (h2 : n ≤ k.length) : (xorL l k).length = n := by unfold xorL; rw [List.length_zipWith, h1, Nat.min_eq_left h2]
theorem xored_any (A C : Option Addr) (n ca m cb : Nat) (a b : List UInt8) (w : World) (ha : Rd w A n ca a) (hb : Rd w C m cb b) (hnm : n ≤ m) (hn : n ≤ 100000) :
    Calls Try.prog 49 #[.slice A n ca, .slice C m cb] w fun e w' => e = .returned (.slice (some ⟨w.heap.size, 0, none⟩) n n) ∧ Own w' w.heap.size (.slice (some ⟨w.heap.size, 0, none⟩) n n) (xorL a b) ∧ Below w.heap.size w w' := by
  have hal : a.length = n := ha.1.symm
  have hbl : b.length = m := hb.1.symm
  have hca := ha.2.1
  have hcb := hb.2.1
  obtain ⟨X, hX⟩ : ∃ X, w.heap.size = X := ⟨_, rfl⟩
  have hmk := Try.prog_make n (by omega) w
  obtain ⟨w1, hw1⟩ : ∃ w1, w.alloc (.cells (madeCells #[.int .u8 0] n) 5) = w1 := ⟨_, rfl⟩
  have hO1 : Own w1 X (.slice (some ⟨X, 0, none⟩) n n) (zs n) := by rw [← hw1, ← hX]; exact Own.made w n (by unfold maxLen; omega)
  have hB1 : Below X w w1 := by rw [← hw1, ← hX]; exact (Below.refl _ _).alloc (Nat.le_refl _) _
  rw [hw1, hX] at hmk
  have HH := Lib.hid (And.intro ha (And.intro hb (And.intro hal (And.intro hbl (And.intro hO1 hB1)))))
  clear ha hb hal hbl hO1 hB1 hw1
  rw [hX]
  go_enter Try.func49, Try.ntmps49
  go_wp2_with fail
  clear hmk
  go_loopw [12] (fun iv wr => ∃ i : Nat, i ≤ n ∧ iv = .int .i64 (i : Int) ∧ Own wr X (.slice (some ⟨X, 0, none⟩) n n) (mid i (xorL a b) (zs n)) ∧ Below X w wr) (fun iv _ => n - (intOf iv).toNat)
  case atStart => exact ⟨0, by omega, rfl, by rw [mid_zero]; exact HH.out.2.2.2.2.1, HH.out.2.2.2.2.2⟩
  case round =>
    obtain ⟨i, hi, rfl, hO, hB⟩ := hrel
    by_cases hlt : i < n
    · have hq : (i : Int) < n := by omega
      have hqm : (i : Int) < m := by omega
      obtain ⟨ba, oa, rfl, haa⟩ := HH.out.1.addr (by omega)
      obtain ⟨bb, ob, rfl, hbb⟩ := HH.out.2.1.addr (by omega)
      have hbaX : ba < X := by rw [← hX]; exact haa.1
      have hbbX : bb < X := by rw [← hX]; exact hbb.1
      obtain ⟨x, hx⟩ : ∃ x, a[i]? = some x := ⟨_, List.getElem?_eq_getElem (by rw [HH.out.2.2.1]; exact hlt)⟩
      obtain ⟨y, hy⟩ : ∃ y, b[i]? = some y := ⟨_, List.getElem?_eq_getElem (by rw [HH.out.2.2.2.1]; omega)⟩
      have hxy := xorL_at a b i x y hx hy
      have y0 : wr.cell? ⟨ba, oa + i, none⟩ = some (B x) := by rw [hB.cell (p := ⟨ba, oa + i, none⟩) hbaX]; exact haa.2 i x hx
      have y1 : wr.cell? ⟨bb, ob + i, none⟩ = some (B y) := by rw [hB.cell (p := ⟨bb, ob + i, none⟩) hbbX]; exact hbb.2 i y hy
      obtain ⟨z, hz⟩ : ∃ z, (mid i (xorL a b) (zs n))[i]? = some z := ⟨_, List.getElem?_eq_getElem (by rw [← hO.len]; exact hlt)⟩
      have y2 := hO.cell i z hz
      have y3 := hO.frozen i
      have hqa : (i : Int) < ca := by omega
      have HS := Lib.hid (And.intro hO (And.intro hB hxy))
      clear hO hB hxy hx hy hz haa hbb
      go_wp2_with fail
      go_still_tail 12, (by kernel_rfl)
      go_wp2_with fail
      have h1 := HS.out.1.set_ i (x ^^^ y) hlt
      rw [mid_set _ _ _ _ HS.out.2.2 (by rw [zs_len]; exact hlt)] at h1
      have hT : Turn [X] wr (wr.setCell ⟨X, i, none⟩ (B (x ^^^ y))).drew := ((Turn.refl _ _).setCell (p := ⟨X, i, none⟩) (.inl (by simp)) _).drew
      go_roundw
      case rel => exact ⟨i + 1, by omega, by go_num, h1, below_turn HS.out.2.1 hT (by simp) (by rw [← hX]; have := HS.out.2.1.size; omega)⟩
      case measure => simp [intOf]; omega
    · obtain rfl : i = n := by omega
      have hq : ¬ ((i : Int) < i) := by omega
      rw [mid_all _ _ i (xorL_lenLe _ _ i HH.out.2.2.1 (by rw [HH.out.2.2.2.1]; exact hnm)) (zs_len i)] at hO
      have HS := Lib.hid (And.intro hO hB)
      clear hO hB hi hlt
      go_wp2_with fail
      go_ret
      exact ⟨rfl, HS.out.1, HS.out.2⟩
theorem rxorn_any (A C : Option Addr) (n ca m cb : Nat) (a b : List UInt8) (w : World) (ha : Rd w A n ca a) (hb : Rd w C m cb b) (hnm : n ≤ m) (hn : n ≤ 100000) :
    Calls Try.prog 52 #[.slice A n ca, .slice C m cb] w fun e w' => e = .returned (.slice (some ⟨w.heap.size, 0, none⟩) n n) ∧ Own w' w.heap.size (.slice (some ⟨w.heap.size, 0, none⟩) n n) (xorL a b) ∧ Below w.heap.size w w' := by
  have hal : a.length = n := ha.1.symm
  have hbl : b.length = m := hb.1.symm
  have hca := ha.2.1
  have hcb := hb.2.1
  obtain ⟨X, hX⟩ : ∃ X, w.heap.size = X := ⟨_, rfl⟩
  have hmk := Try.prog_make n (by omega) w
  obtain ⟨w1, hw1⟩ : ∃ w1, w.alloc (.cells (madeCells #[.int .u8 0] n) 5) = w1 := ⟨_, rfl⟩
  have hO1 : Own w1 X (.slice (some ⟨X, 0, none⟩) n n) (zs n) := by rw [← hw1, ← hX]; exact Own.made w n (by unfold maxLen; omega)
  have hB1 : Below X w w1 := by rw [← hw1, ← hX]; exact (Below.refl _ _).alloc (Nat.le_refl _) _
  rw [hw1, hX] at hmk
  have HH := Lib.hid (And.intro ha (And.intro hb (And.intro hal (And.intro hbl (And.intro hO1 hB1)))))
  clear ha hb hal hbl hO1 hB1 hw1
  rw [hX]
  go_enter Try.func52, Try.ntmps52
  go_wp2_with fail
  clear hmk
  go_loopw [6] (fun iv wr => ∃ i : Nat, i ≤ n ∧ iv = .int .i64 (i : Int) ∧ Own wr X (.slice (some ⟨X, 0, none⟩) n n) (mid i (xorL a b) (zs n)) ∧ Below X w wr) (fun iv _ => n - (intOf iv).toNat)
  case atStart => exact ⟨0, by omega, rfl, by rw [mid_zero]; exact HH.out.2.2.2.2.1, HH.out.2.2.2.2.2⟩
  case round =>
    obtain ⟨i, hi, rfl, hO, hB⟩ := hrel
    by_cases hlt : i < n
    · have hq : (i : Int) < n := by omega
      have hqm : (i : Int) < m := by omega
      obtain ⟨ba, oa, rfl, haa⟩ := HH.out.1.addr (by omega)
      obtain ⟨bb, ob, rfl, hbb⟩ := HH.out.2.1.addr (by omega)
      have hbaX : ba < X := by rw [← hX]; exact haa.1
      have hbbX : bb < X := by rw [← hX]; exact hbb.1
      obtain ⟨x, hx⟩ : ∃ x, a[i]? = some x := ⟨_, List.getElem?_eq_getElem (by rw [HH.out.2.2.1]; exact hlt)⟩
      obtain ⟨y, hy⟩ : ∃ y, b[i]? = some y := ⟨_, List.getElem?_eq_getElem (by rw [HH.out.2.2.2.1]; omega)⟩
      have hxy := xorL_at a b i x y hx hy
      have y0 : wr.cell? ⟨ba, oa + i, none⟩ = some (B x) := by rw [hB.cell (p := ⟨ba, oa + i, none⟩) hbaX]; exact haa.2 i x hx
      have y1 : wr.cell? ⟨bb, ob + i, none⟩ = some (B y) := by rw [hB.cell (p := ⟨bb, ob + i, none⟩) hbbX]; exact hbb.2 i y hy
      obtain ⟨z, hz⟩ : ∃ z, (mid i (xorL a b) (zs n))[i]? = some z := ⟨_, List.getElem?_eq_getElem (by rw [← hO.len]; exact hlt)⟩
      have y2 := hO.cell i z hz
      have y3 := hO.frozen i
      have hqa : (i : Int) < ca := by omega
      have HS := Lib.hid (And.intro hO (And.intro hB hxy))
      clear hO hB hxy hx hy hz haa hbb
      go_wp2_with fail
      go_still_tail 12, (by kernel_rfl)
      go_wp2_with fail
      have h1 := HS.out.1.set_ i (x ^^^ y) hlt
      rw [mid_set _ _ _ _ HS.out.2.2 (by rw [zs_len]; exact hlt)] at h1
      have hT : Turn [X] wr (wr.setCell ⟨X, i, none⟩ (B (x ^^^ y))).drew := ((Turn.refl _ _).setCell (p := ⟨X, i, none⟩) (.inl (by simp)) _).drew
      go_roundw
      case rel => exact ⟨i + 1, by omega, by go_num, h1, below_turn HS.out.2.1 hT (by simp) (by rw [← hX]; have := HS.out.2.1.size; omega)⟩
      case measure => simp [intOf]; omega
    · obtain rfl : i = n := by omega
      have hq : ¬ ((i : Int) < i) := by omega
      rw [mid_all _ _ i (xorL_lenLe _ _ i HH.out.2.2.1 (by rw [HH.out.2.2.2.1]; exact hnm)) (zs_len i)] at hO
      have HS := Lib.hid (And.intro hO hB)
      clear hO hB hi hlt
      go_wp2_with fail
      go_ret
      exact ⟨rfl, HS.out.1, HS.out.2⟩
end Go.Proofs.Ytiocmebcbhbcmaa
namespace Go.Proofs.Ytiocmebcbhbcmaa
open Go.RowKit

theorem zeroCells_toList (k : Nat) : (Builtin.zeroCells #[.int .u8 0] k).toList = (zs k).map B := by
  unfold Builtin.zeroCells zs
  rw [List.map_replicate]
  apply List.ext_getElem?
  intro j
  by_cases h : j < k
  · simp [h, B, Nat.mod_one]
  · simp [h]
theorem run_append_ownZ (w : World) (base : Nat) (ty : TypeId) (v : Value) (l : List UInt8) (hown : Own w base v l) (k : Nat) (h0 : 0 < k) (hlen : l.length + k ≤ 1000000) (hbase : base ≤ w.heap.size) :
    ∃ v' w', (Builtin.append_ #[22, 3] ty #[v, .int .i64 (k : Int)]).run Try.prog w = .ok v' w' ∧ Own w' base v' (l ++ zs k) ∧ w.grownBy w' v.ownBlock ∧ v' ≠ .slice none 0 0 ∧ (v'.ownBlock = v.ownBlock ∨ v'.ownBlock = some w.heap.size) := by
  obtain ⟨i, hi, hz, hsz, hby⟩ := info_parts Try.infoU8
  have hzl := zeroCells_toList k
  have hcz : (Value.int .u8 0).cells = #[.int .u8 0] := rfl
  have hlz : ((l ++ zs k).map B).length = l.length + k := by simp [zs]
  have grown : ∀ (old : Nat), old < l.length + k → ∀ (row : Option Nat),
      Own (w.drew.alloc (.cells ((l.map B).toArray ++ Builtin.zeroCells #[.int .u8 0] k ++ Builtin.zeroCells #[.int .u8 0] (grownCap w (l.length + k) old 5 - (l.length + k))) 5)) base
        (.slice (some ⟨w.heap.size, 0, none⟩) (l.length + k) (grownCap w (l.length + k) old 5)) (l ++ zs k) ∧
      w.grownBy (w.drew.alloc (.cells ((l.map B).toArray ++ Builtin.zeroCells #[.int .u8 0] k ++ Builtin.zeroCells #[.int .u8 0] (grownCap w (l.length + k) old 5 - (l.length + k))) 5)) row := by
    intro old ho row
    have hge := grownCap_ge w (l.length + k) old 5
    have hcm : grownCap w (l.length + k) old 5 ≤ maxLen := grownCap_le_maxLen w (l.length + k) old 5 (by unfold maxLen; omega)
    have hll : (l ++ zs k).length = l.length + k := by simp [zs]
    refine ⟨⟨by simp, .inr ⟨w.heap.size, _, _, by rw [hll], hbase, heap_alloc_new w.drew _, by rw [hll]; exact hge, hcm, ?_, ?_⟩⟩, ⟨rfl, rfl, rfl, by simp, fun j hj _ => heap_alloc_old w.drew _ hj⟩⟩
    · simp only [Array.size_append, List.size_toArray, size_zeroCells, List.length_map]
      simp
      omega
    · simp only [Array.toList_append, hzl]
      rw [← List.map_append, Nat.mul_one]
      exact List.take_left' (by simp)
  rcases hown.2 with ⟨rfl, hl⟩ | ⟨g, cap, cur, rfl, hbg, hg, hnc, hcm, hcs, htake⟩
  · have hx : l = [] := by simpa using hl
    subst hx
    have hr := Lib.run_append_nil_zeros (P := Try.prog) w 22 3 ty 5 i (.int .u8 0) .i64 .i64 Try.underlying22 Try.underlying3 hi hz k h0 (by omega) (by simp at hlen; omega) (by rw [hby]; simp at hlen; omega)
    have hgr := grown 0 (by simp; omega) (Value.ownBlock (.slice none 0 0))
    simp only [List.length_nil, Nat.zero_add, List.map_nil, Array.empty_append, List.nil_append] at hgr ⊢
    rw [hcz] at hr
    exact ⟨_, _, hr, hgr.1, hgr.2, by simp, .inr rfl⟩
  · by_cases hroom : l.length + k ≤ cap
    · have hst := run_storeCells_at Try.prog g l.length 5 ((zs k).map B) 0 cur w hg (by simp [zs]; rw [hcs]; simp; omega) (by simp [zs, B, Value.oneCell'])
      simp only [Nat.add_zero] at hst
      have hw : IntKind.i64.wrap (k : Int) = k := IntWalk.i64_in _ (by omega)
      have h48i : ¬ (281474976710656 < (k : Int)) := by omega
      have hneg : ¬ ((k : Int) < 0) := by omega
      have hk0 : k ≠ 0 := by omega
      have hrun : (Builtin.append_ #[22, 3] ty #[.slice (some ⟨g, 0, none⟩) l.length cap, .int .i64 (k : Int)]).run Try.prog w = .ok (.slice (some ⟨g, 0, none⟩) (l.length + k) cap) (w.setRow g (cur.toList.take l.length ++ (zs k).map B ++ cur.toList.drop (l.length + ((zs k).map B).length)).toArray) := by
        simp [Builtin.append_, run_underlying Try.underlying22, run_underlying Try.underlying3, sizeOf, typeInfo, zeroValue, hi, hz, hsz, hby, asInt, asIntOf, hw, hneg, h48i, hk0, hroom, Value.cells, Addr.add_lit, zeroCells_toList, hst]
      refine ⟨_, _, hrun, ⟨by simp, .inr ⟨g, cap, _, by simp [zs], hbg, setRow_heap w g cur _ 5 _ hg, by simp [zs]; omega, hcm, ?_, ?_⟩⟩, ⟨rfl, rfl, rfl, by simp, fun k _ hk => setRow_other w g k _ (fun e => hk (by simp [Value.ownBlock, e]))⟩, by simp, .inl rfl⟩
      · simp only [List.size_toArray, List.length_append, List.length_take, List.length_drop, Array.length_toList, List.length_map]
        have : (zs k).length = k := by simp [zs]
        rw [hcs] at *
        simp
        omega
      · have htake' : cur.toList.take l.length = l.map B := by simpa using htake
        simp only [htake']
        rw [← List.map_append, Nat.mul_one]
        exact List.take_left' (by simp)
    · have hold : (Builtin.firstCells i.size l.length (.slice (some ⟨g, 0, none⟩) l.length cap)).run Try.prog w.drew = .ok (l.map B).toArray w.drew := by
        have hc := hown.cells (g := g) rfl
        have := run_firstCells_some (P := Try.prog) w.drew i.size l.length ⟨g, 0, none⟩ l.length cap (l.map B) (by simp [hsz]) (fun j u hj => hc j u hj)
        exact this
      have hr := Lib.run_append_grow_zeros (P := Try.prog) w 22 3 ty 5 i (.int .u8 0) .i64 .i64 Try.underlying22 Try.underlying3 hi hz (some ⟨g, 0, none⟩) l.length cap (l.map B) hold k h0 (by omega) (by omega) (by omega) (by rw [hby]; omega) (growslice_fits (by omega) (by rw [hby]; omega))
      have hgr := grown cap (by omega) (Value.ownBlock (.slice (some ⟨g, 0, none⟩) l.length cap))
      rw [hcz] at hr
      exact ⟨_, _, hr, hgr.1, hgr.2, by simp, .inr rfl⟩
/-- The operation in a walk. -/
theorem wp_appZ {ops : Array Oper} {rest : List Oper} {o : Oper} {a : Act} {w : World} {Q : Exit → Act → World → Prop} (s x : Operand) (base : Nat) (v : Value) (l : List UInt8) (hown : Own w base v l) (hbase : base ≤ w.heap.size)
    (k : Nat) (h0 : 0 < k) (hlen : l.length + k ≤ 1000000) (hgd : o.guard = none)
    (ho : o.op = .call { callee := .builtin .append, args := #[s, x], argTypes := #[22, 3] }) (hs : a.eval s = v) (hx : a.eval x = .int .i64 (k : Int))
    (h : ∀ (A' : Option Addr) (n' c' : Nat) (w' : World), (n' : Int) ≤ 9223372036854775807 → Grew base w w' v A' n' c' (l ++ zs k) → wpList Try.prog ops Q rest (a.put o.dst (.slice A' n' c')) w') : wpList Try.prog ops Q (o :: rest) a w := by
  obtain ⟨v', w', hr, h1, h2, h3, h4⟩ := run_append_ownZ w base o.type v l hown k h0 hlen hbase
  have hz : zs k ≠ [] := fun e => by have h9 := congrArg List.length e; simp [zs] at h9; omega
  obtain ⟨A', n', c', rfl, hn, hG⟩ := grew_of (l2 := zs k) hown hbase h1 h2 (by simp [h3, hz]) h4
  exact Lib.wpList_append_run w hgd s x _ _ ho _ _ hs hx _ _ hr (h _ _ _ _ hn hG)
end Go.Proofs.Ytiocmebcbhbcmaa
