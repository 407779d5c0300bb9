/-
  rpc.same; rpc.ReadCall.
-/
import Derived.Test.YtmanpfenmamflaaRpc9
namespace Go.Proofs.Ytmanpfenmamflaa
open Go.RowKit

theorem equal_any (A : Option Addr) (m c : Nat) (A' : Option Addr) (m' c' : Nat) (l l' : List UInt8) (w : World) (hr : Rd w A m c l) (hr' : Rd w A' m' c' l') :
    Calls Try.prog 41 #[.slice A m c, .slice A' m' c'] w fun e w' => (e = .returned (.bool (decide (l = l')))) ∧ w = w' := by
  have s1 := hr.str
  have s2 := hr'.str
  clear hr hr'
  by_cases he : l = l'
  · rw [decide_eq_true he]
    subst he
    go_enter Try.func41, Try.ntmps41
    go_wp2
    go_ret
    exact ⟨by first | rfl | simp, rfl⟩
  · rw [decide_eq_false he]
    have hn : (⟨l.toArray⟩ : ByteArray) ≠ ⟨l'.toArray⟩ := fun e => he (by simpa using congrArg (fun b => b.data.toList) e)
    go_enter Try.func41, Try.ntmps41
    go_wp2
    go_ret
    exact ⟨by first | rfl | simp [hn, he], rfl⟩
theorem same_no (A : Option Addr) (m c : Nat) (A' : Option Addr) (m' c' : Nat) (w : World) :
    Calls Try.prog 33 #[.slice A m c, .bool false, .slice A' m' c'] w fun e w' => e = .returned (.bool false) ∧ w = w' := by
  go_enter Try.func33, Try.ntmps33
  go_wp2
  go_ret
  exact ⟨by first | rfl | simp, rfl⟩
theorem same_any (A : Option Addr) (m c : Nat) (A' : Option Addr) (m' c' : Nat) (l l' : List UInt8) (w : World) (hr : Rd w A m c l) (hr' : Rd w A' m' c' l') (h4 : 4 ≤ m) :
    Calls Try.prog 33 #[.slice A m c, .bool true, .slice A' m' c'] w fun e w' => e = .returned (.bool (decide (l.drop 4 = l'))) ∧ w = w' := by
  obtain ⟨A2, n2, c2, hn2, hs2, hr2, hA2⟩ := hr.cut_ex2 (k := 4) (by omega)
  have hs := hs2 w
  rw [show ((4 : Nat) : Int) = 4 from rfl] at hs
  have H := Lib.hid (And.intro hr2 hr')
  clear hr hr' hs2 hr2 hn2
  go_enter Try.func33, Try.ntmps33
  go_wp2_with fail
  refine (equal_any A2 n2 c2 A' m' c' _ _ w H.out.1 H.out.2).mono ?_
  rintro e w' ⟨rfl, rfl⟩
  obtain ⟨b, hb⟩ : ∃ b, decide (l.drop 4 = l') = b := ⟨_, rfl⟩
  rw [hb]
  have HB := Lib.hid hb
  clear hb
  go_wp2_with fail
  go_ret
  exact ⟨by rw [HB.out]; rfl, rfl⟩

abbrev St := List UInt8 × Bool
def RrS (W : World) (p base : Nat) (st : St) : Prop := Rr W p base st.1 st.2
def gO (st : St) (n : Nat) : Int := (be (tkO st.1 n) : Int)
def gS (st : St) (n : Nat) : St := (tkL st.1 n, tkB st.1 st.2 n)
def yO (st : St) (n : Nat) : List UInt8 := ryO st.1 n
def yS (st : St) (n : Nat) : St := (ryL st.1 n, ryB st.1 st.2 n)
def aO (st : St) : List (Int × List UInt8) := (raA st.1 st.2).1
def aS (st : St) : St := (raA st.1 st.2).2
/-- So many numbers of four bytes. -/
def giS (st : St) : Nat → List Int × St
  | 0 => ([], st)
  | k + 1 => ((giS st k).1 ++ [gO (giS st k).2 4], gS (giS st k).2 4)
theorem giS_cnt (st : St) : ∀ k, (giS st k).1.length = k
  | 0 => rfl
  | k + 1 => by show (_ ++ [_]).length = _; rw [List.length_append, giS_cnt st k]; rfl
theorem gS_len (st : St) (n : Nat) : (gS st n).1.length ≤ st.1.length := tkL_len _ _
theorem yS_len (st : St) (n : Nat) : (yS st n).1.length ≤ st.1.length := ryL_len _ _
theorem aS_len (st : St) : (aS st).1.length ≤ st.1.length := by
  unfold aS raA
  exact Nat.le_trans (raS_len _ _ _) (tkL_len _ _)
theorem giS_len (st : St) : ∀ k, (giS st k).2.1.length ≤ st.1.length
  | 0 => Nat.le_refl _
  | k + 1 => Nat.le_trans (gS_len _ _) (giS_len st k)
theorem get_s (p base size : Nat) (st : St) (w : World) (h : RrS w p base st) (hn : size ≤ 4) :
    Calls Try.prog 30 #[.pointer (some ⟨p, 0, none⟩), .int .i64 (size : Int)] w fun e w' => e = .returned (.int .i64 (gO st size)) ∧ RrS w' p base (gS st size) ∧ Turn [p] w w' ∧ w'.heap.size = w.heap.size := get_any p base size st.1 st.2 w h hn
theorem rbytes_s (p base size : Nat) (st : St) (w : World) (h : RrS w p base st) (hn : size ≤ 4) (hl : st.1.length ≤ 100000000) :
    Calls Try.prog 31 #[.pointer (some ⟨p, 0, none⟩), .int .i64 (size : Int)] w fun e w' => ∃ A m c, e = .returned (.slice A m c) ∧ Own w' w.heap.size (.slice A m c) (yO st size) ∧ RrS w' p base (yS st size) ∧ Turn [p] w w' := rbytes_any p base size st.1 st.2 w h hn hl
theorem rattrs_s (p base : Nat) (st : St) (w : World) (h : RrS w p base st) (hl : st.1.length ≤ 100000000) :
    Calls Try.prog 32 #[.pointer (some ⟨p, 0, none⟩)] w fun e w' => ∃ A m c, e = .returned (.slice A m c) ∧ OwnAts w' w.heap.size ⟨A, m, c⟩ (aO st) ∧ RrS w' p base (aS st) ∧ Turn [p] w w' :=
  (rattrs_any p base st.1 st.2 w h hl).mono fun e w' ⟨s, h1, h2⟩ => ⟨s.A, s.m, s.c, h1, h2⟩
def rcI (l : List UInt8) : List Int × St := giS (gS (l, false) 1) 5
def rc2 (l : List UInt8) : St := (rcI l).2
def rc3 (l : List UInt8) : St := yS (rc2 l) 2
def rc4 (l : List UInt8) : St := yS (rc3 l) 4
def rc5 (l : List UInt8) : St := yS (rc4 l) 2
def rc6 (l : List UInt8) : St := aS (rc5 l)
def rc7 (l : List UInt8) : St := aS (rc6 l)
/-- The call that is read. -/
def rcC (l : List UInt8) : PCall := ⟨gO (l, false) 1, (rcI l).1.getD 0 0, (rcI l).1.getD 1 0, (rcI l).1.getD 2 0, (rcI l).1.getD 3 0, (rcI l).1.getD 4 0, yO (rc2 l) 2, yO (rc3 l) 4, yO (rc4 l) 2, aO (rc5 l), aO (rc6 l)⟩
theorem rcC_eqs (l : List UInt8) : (rcC l).fn = gO (l, false) 1 ∧ [(rcC l).ss, (rcC l).a, (rcC l).b, (rcC l).n, (rcC l).kd] = [(rcI l).1.getD 0 0, (rcI l).1.getD 1 0, (rcI l).1.getD 2 0, (rcI l).1.getD 3 0, (rcI l).1.getD 4 0] ∧ (rcC l).param = yO (rc2 l) 2 ∧ (rcC l).data = yO (rc3 l) 4 ∧ (rcC l).more = yO (rc4 l) 2 ∧ (rcC l).t1 = aO (rc5 l) ∧ (rcC l).t2 = aO (rc6 l) := by
  unfold rcC
  refine ⟨?_, ?_, ?_, ?_, ?_, ?_, ?_⟩ <;> dsimp only
def zCall : PCall := ⟨0, 0, 0, 0, 0, 0, [], [], [], [], []⟩
def zSl : Sl := ⟨none, 0, 0⟩
/-- Is what was read a call's body? -/
def rcOk (l : List UInt8) : Bool := !(rc7 l).2 && match frameO (callO (rcC l)) with | none => false | some f => decide (f.drop 4 = l)
def RcRes (w : World) (l : List UInt8) (e : Ending) (w' : World) : Prop :=
  Below w.heap.size w w' ∧ ∃ c p d e' t u, e = .returned (.tuple #[callV c p d e' t u, .bool (rcOk l)]) ∧ CallIs w' w'.heap.size c p d e' t u ∧ c = (if rcOk l = true then rcC l else zCall)
theorem set_mid {α : Type} (a b : List α) (z x : α) : (a ++ z :: b).set a.length x = a ++ x :: b := by
  induction a with
  | nil => rfl
  | cons y a ih => rw [List.cons_append, List.length_cons, List.set_cons_succ, ih]; rfl
def nil5 : List Value := [.slice none 0 0, .slice none 0 0, .slice none 0 0, .slice none 0 0, .slice none 0 0]
def ccL (fn : Int) (is : List Int) (k : Nat) : List Value := .int .i64 fn :: (is.map (Value.int .i64) ++ (List.replicate (5 - k) (.int .i64 0) ++ nil5))
theorem ccL_set (fn x : Int) (is : List Int) (k : Nat) (h : is.length = k) (hk : k < 5) : (ccL fn is k).set (k + 1) (.int .i64 x) = ccL fn (is ++ [x]) (k + 1) := by
  unfold ccL
  rw [List.set_cons_succ, show 5 - k = (5 - (k + 1)) + 1 by omega, List.replicate_succ, List.cons_append]
  have := set_mid (is.map (Value.int .i64)) (List.replicate (5 - (k + 1)) (.int .i64 0) ++ nil5) (.int .i64 0) (.int .i64 x)
  rw [List.length_map, h] at this
  rw [this, List.map_append, List.append_assoc]
  rfl
theorem ccL_get (fn : Int) (is : List Int) (k : Nat) (h : is.length = k) (hk : k < 5) : (ccL fn is k)[k + 1]? = some (.int .i64 0) := by
  unfold ccL
  rw [List.getElem?_cons_succ, List.getElem?_append_right (by simp [h]), List.length_map, h, Nat.sub_self, show 5 - k = (5 - (k + 1)) + 1 by omega]
  rfl
theorem list5 (is : List Int) (h : is.length = 5) : is = [is.getD 0 0, is.getD 1 0, is.getD 2 0, is.getD 3 0, is.getD 4 0] := by
  match is, h with
  | [a, b, c, d, e], _ => rfl
theorem ptr_get (X k : Nat) (hk : k < 5) : (#[Value.pointer (some ⟨X, 1, none⟩), .pointer (some ⟨X, 2, none⟩), .pointer (some ⟨X, 3, none⟩), .pointer (some ⟨X, 4, none⟩), .pointer (some ⟨X, 5, none⟩)] : Array Value)[k]? = some (.pointer (some ⟨X, k + 1, none⟩)) := by
  match k, hk with
  | 0, _ => rfl
  | 1, _ => rfl
  | 2, _ => rfl
  | 3, _ => rfl
  | 4, _ => rfl
set_option maxRecDepth 100000 in
set_option maxHeartbeats 2000000 in
theorem readCall_any (A : Option Addr) (m c : Nat) (l : List UInt8) (w : World) (h : Rd w A m c l) (hl : l.length ≤ 100000000) :
    Calls Try.prog 11 #[.slice A m c] w (RcRes w l) := by
  obtain ⟨X, hX⟩ : ∃ X, X = w.heap.size := ⟨_, rfl⟩
  have H := Lib.hid (And.intro h (And.intro hl hX))
  clear h hl
  obtain ⟨C, hC⟩ : ∃ C, rcC l = C := ⟨_, rfl⟩
  obtain ⟨k1, k2, k3, k4, k5, k6, k7⟩ := rcC_eqs l
  rw [hC] at k1 k2 k3 k4 k5 k6 k7
  have hi5 : (giS (gS (l, false) 1) 5).1 = [C.ss, C.a, C.b, C.n, C.kd] := by
    have := list5 (giS (gS (l, false) 1) 5).1 (giS_cnt _ 5)
    rw [k2]
    exact this
  have hfn := k1.symm
  have hpa := k3.symm
  have hda := k4.symm
  have hmo := k5.symm
  have ht1 := k6.symm
  have ht2 := k7.symm
  clear k1 k2 k3 k4 k5 k6 k7
  obtain ⟨s1, hs1⟩ : ∃ s1, gS (l, false) 1 = s1 := ⟨_, rfl⟩
  rw [hs1] at hi5
  have hrc2 : (giS s1 5).2 = rc2 l := by rw [← hs1]; rfl
  have hln : s1.1.length ≤ 100000000 := by rw [← hs1]; exact Nat.le_trans (gS_len _ _) H.out.2.1
  have hl2 : (rc2 l).1.length ≤ 100000000 := by rw [← hrc2]; exact Nat.le_trans (giS_len _ _) hln
  have hl3 : (rc3 l).1.length ≤ 100000000 := Nat.le_trans (yS_len _ _) hl2
  have hl4 : (rc4 l).1.length ≤ 100000000 := Nat.le_trans (yS_len _ _) hl3
  have hl5 : (rc5 l).1.length ≤ 100000000 := Nat.le_trans (yS_len _ _) hl4
  have hl6 : (rc6 l).1.length ≤ 100000000 := Nat.le_trans (aS_len _) hl5
  have HC := Lib.hid (And.intro hC (And.intro hfn (And.intro hi5 (And.intro hs1 hrc2))))
  have HV := Lib.hid (And.intro hpa (And.intro hda (And.intro hmo (And.intro ht1 ht2))))
  have HL := Lib.hid (And.intro hl2 (And.intro hl3 (And.intro hl4 (And.intro hl5 hl6))))
  clear hC hfn hi5 hs1 hrc2 hpa hda hmo ht1 ht2 hl2 hl3 hl4 hl5 hl6 hln
  go_enter Try.func11, Try.ntmps11
  go_wp2_with fail
  obtain ⟨wA, hwA⟩ : ∃ wA, ((w.alloc (.cells #[.int .i64 0, .int .i64 0, .int .i64 0, .int .i64 0, .int .i64 0, .int .i64 0, .slice none 0 0, .slice none 0 0, .slice none 0 0, .slice none 0 0, .slice none 0 0] 27)).alloc (.cells #[.slice A m c, .bool false] 68)).alloc (.cells #[.int .i64 0, .int .i64 0, .int .i64 0, .int .i64 0, .int .i64 0, .int .i64 0, .slice none 0 0, .slice none 0 0, .slice none 0 0, .slice none 0 0, .slice none 0 0] 27) = wA := ⟨_, rfl⟩
  have hz1 : (w.alloc (.cells #[.int .i64 0, .int .i64 0, .int .i64 0, .int .i64 0, .int .i64 0, .int .i64 0, .slice none 0 0, .slice none 0 0, .slice none 0 0, .slice none 0 0, .slice none 0 0] 27)).heap.size = X + 1 := by rw [hX]; simp
  have hz2 : ((w.alloc (.cells #[.int .i64 0, .int .i64 0, .int .i64 0, .int .i64 0, .int .i64 0, .int .i64 0, .slice none 0 0, .slice none 0 0, .slice none 0 0, .slice none 0 0, .slice none 0 0] 27)).alloc (.cells #[.slice A m c, .bool false] 68)).heap.size = X + 2 := by rw [hX]; simp
  have bRes : Blk wA X 27 #[.int .i64 0, .int .i64 0, .int .i64 0, .int .i64 0, .int .i64 0, .int .i64 0, .slice none 0 0, .slice none 0 0, .slice none 0 0, .slice none 0 0, .slice none 0 0] := by rw [← hwA, hX]; exact ((Blk.new _ _ _).alloc _).alloc _
  have bRd : Blk wA (X + 1) 68 #[.slice A m c, .bool false] := by
    rw [← hwA]
    have := Blk.new (w.alloc (.cells #[.int .i64 0, .int .i64 0, .int .i64 0, .int .i64 0, .int .i64 0, .int .i64 0, .slice none 0 0, .slice none 0 0, .slice none 0 0, .slice none 0 0, .slice none 0 0] 27)) 68 #[.slice A m c, .bool false]
    rw [hz1] at this
    exact this.alloc _
  have bC : Blk wA (X + 2) 27 (ccL 0 [] 0).toArray := by
    rw [← hwA]
    have := Blk.new ((w.alloc (.cells #[.int .i64 0, .int .i64 0, .int .i64 0, .int .i64 0, .int .i64 0, .int .i64 0, .slice none 0 0, .slice none 0 0, .slice none 0 0, .slice none 0 0, .slice none 0 0] 27)).alloc (.cells #[.slice A m c, .bool false] 68)) 27 #[.int .i64 0, .int .i64 0, .int .i64 0, .int .i64 0, .int .i64 0, .int .i64 0, .slice none 0 0, .slice none 0 0, .slice none 0 0, .slice none 0 0, .slice none 0 0]
    rw [hz2] at this
    exact this
  have hbA : Below X w wA := by rw [← hwA, hX]; exact (((Below.refl _ _).alloc (Nat.le_refl _) _).alloc (by simp) _).alloc (by simp; omega) _
  have hsA : wA.heap.size = X + 3 := by rw [← hwA, hX]; simp
  have hRA : RrS wA (X + 1) X (l, false) := ⟨A, m, c, bRd, H.out.1.below (by rw [← hX]; exact hbA), fun ad had => by rw [hX]; exact H.out.1.lt ad had, by omega⟩
  rw [hwA, ← hX]
  have HA := Lib.hid (And.intro bRes (And.intro bC (And.intro hbA (And.intro hsA hRA))))
  clear hwA hz1 hz2 bRes bRd bC hbA hsA hRA hX
  refine (get_s (X + 1) X 1 (l, false) wA HA.out.2.2.2.2 (by omega)).mono ?_
  rintro e1 w1 ⟨rfl, hR1, hT1, hs1'⟩
  rw [HC.out.2.2.2.1] at hR1
  rw [HC.out.2.1]
  have bC1 := HA.out.2.1.turn hT1 (by simp)
  have q0 := bC1.cell 0
  have f0 := bC1.frozen 0
  have hw1s : w1.heap.size = X + 3 := by rw [hs1']; exact HA.out.2.2.2.1
  simp only [ccL, List.getElem?_toArray, List.getElem?_cons_zero] at q0
  have H1 := Lib.hid (And.intro hR1 (And.intro hT1 (And.intro hw1s bC1)))
  clear hR1 hT1 hs1' bC1 hw1s
  go_wp2_with fail
  obtain ⟨wB, hwB⟩ : ∃ wB, (w1.setCell ⟨X + 2, 0, none⟩ (.int .i64 C.fn)).alloc (.cells #[.pointer (some ⟨X + 2, 1, none⟩), .pointer (some ⟨X + 2, 2, none⟩), .pointer (some ⟨X + 2, 3, none⟩), .pointer (some ⟨X + 2, 4, none⟩), .pointer (some ⟨X + 2, 5, none⟩)] 70) = wB := ⟨_, rfl⟩
  have hTs : Turn [X + 2] w1 (w1.setCell ⟨X + 2, 0, none⟩ (.int .i64 C.fn)) := (Turn.refl _ _).setCell (.inl (by simp)) _
  have hTB : Turn [X + 2] w1 wB := by rw [← hwB]; exact hTs.alloc _
  have hszB : (w1.setCell ⟨X + 2, 0, none⟩ (.int .i64 C.fn)).heap.size = X + 3 := by simp [World.setCell]; exact H1.out.2.2.1
  have bP : Blk wB (X + 3) 70 #[.pointer (some ⟨X + 2, 1, none⟩), .pointer (some ⟨X + 2, 2, none⟩), .pointer (some ⟨X + 2, 3, none⟩), .pointer (some ⟨X + 2, 4, none⟩), .pointer (some ⟨X + 2, 5, none⟩)] := by
    rw [← hwB]
    have := Blk.new (w1.setCell ⟨X + 2, 0, none⟩ (.int .i64 C.fn)) 70 #[.pointer (some ⟨X + 2, 1, none⟩), .pointer (some ⟨X + 2, 2, none⟩), .pointer (some ⟨X + 2, 3, none⟩), .pointer (some ⟨X + 2, 4, none⟩), .pointer (some ⟨X + 2, 5, none⟩)]
    rwa [hszB] at this
  have hsB : wB.heap.size = X + 4 := by rw [← hwB]; simp [hszB]
  have bCB : Blk wB (X + 2) 27 (ccL C.fn [] 0).toArray := by
    rw [← hwB]
    have := (H1.out.2.2.2.set_ 0 (.int .i64 C.fn)).alloc (.cells #[.pointer (some ⟨X + 2, 1, none⟩), .pointer (some ⟨X + 2, 2, none⟩), .pointer (some ⟨X + 2, 3, none⟩), .pointer (some ⟨X + 2, 4, none⟩), .pointer (some ⟨X + 2, 5, none⟩)] 70)
    rwa [List.setIfInBounds_toArray] at this
  have hRB : RrS wB (X + 1) X s1 := by
    rw [← hwB]
    obtain ⟨A', m', c', z1, z2, z3, z4⟩ := H1.out.1
    exact ⟨A', m', c', (z1.far (by simp) _).alloc _, (z2.turn hTs (fun ad had hm => by have := z3 ad had; simp at hm; omega)).below ((Below.refl _ _).alloc (Nat.le_refl _) _), z3, z4⟩
  have bRB : Blk wB X 27 #[.int .i64 0, .int .i64 0, .int .i64 0, .int .i64 0, .int .i64 0, .int .i64 0, .slice none 0 0, .slice none 0 0, .slice none 0 0, .slice none 0 0, .slice none 0 0] := (HA.out.1.turn H1.out.2.1 (by simp)).turn hTB (by simp)
  have hBB : Below X w wB := below_turn (below_turn HA.out.2.2.1 H1.out.2.1 (by simp) (by rw [HA.out.2.2.2.1]; omega)) hTB (by simp) (by rw [H1.out.2.2.1]; omega)
  have hs1e := H1.out.2.2.1
  rw [hwB]
  try rw [hs1e]
  have HB := Lib.hid (And.intro bP (And.intro hsB (And.intro bCB (And.intro hRB (And.intro bRB hBB)))))
  clear hwB hTs hTB hszB bP hsB bCB hRB bRB hBB hs1e q0 f0
  go_loopw [24] (fun kk wr => ∃ k : Nat, k ≤ 5 ∧ kk = .int .i64 (k : Int) ∧ Blk wr (X + 3) 70 #[.pointer (some ⟨X + 2, 1, none⟩), .pointer (some ⟨X + 2, 2, none⟩), .pointer (some ⟨X + 2, 3, none⟩), .pointer (some ⟨X + 2, 4, none⟩), .pointer (some ⟨X + 2, 5, none⟩)] ∧ wr.heap.size = X + 4 ∧ Blk wr (X + 2) 27 (ccL C.fn (giS s1 k).1 k).toArray ∧ RrS wr (X + 1) X (giS s1 k).2 ∧ Blk wr X 27 #[.int .i64 0, .int .i64 0, .int .i64 0, .int .i64 0, .int .i64 0, .int .i64 0, .slice none 0 0, .slice none 0 0, .slice none 0 0, .slice none 0 0, .slice none 0 0] ∧ Below X w wr) (fun kk _ => 5 - (intOf kk).toNat)
  case atStart => exact ⟨0, by omega, rfl, HB.out⟩
  case round =>
    obtain ⟨k, hk, rfl, bP, hsB, bCB, hRB, bRB, hBB⟩ := hrel
    by_cases hlt : k < 5
    · have hlti : (k : Int) < 5 := by omega
      have hltd : decide ((k : Int) < 5) = true := decide_eq_true hlti
      have hk0 : ¬ ((k : Int) < 0) := by omega
      have qk : wr.cell? ⟨X + 3, k, none⟩ = some (.pointer (some ⟨X + 2, k + 1, none⟩)) := (bP.cell k).trans (ptr_get (X + 2) k hlt)
      have HR := Lib.hid (And.intro bP (And.intro hsB (And.intro bCB (And.intro hRB (And.intro bRB hBB)))))
      clear bP hsB bCB hRB bRB hBB
      go_wp2_with fail
      refine (get_s (X + 1) X 4 _ wr HR.out.2.2.2.1 (by omega)).mono ?_
      rintro e3 w3 ⟨rfl, hR3, hT3, hs3⟩
      have bC3 := HR.out.2.2.1.turn hT3 (by simp)
      have q3 : w3.cell? ⟨X + 2, k + 1, none⟩ = some (.int .i64 0) := (bC3.cell (k + 1)).trans (by rw [List.getElem?_toArray]; exact ccL_get _ _ _ (giS_cnt _ _) hlt)
      have f3 := bC3.frozen (k + 1)
      have H3 := Lib.hid (And.intro hR3 (And.intro hT3 (And.intro hs3 bC3)))
      clear hR3 hT3 hs3 bC3
      obtain ⟨x, hx⟩ : ∃ x, gO (giS s1 k).2 4 = x := ⟨_, rfl⟩
      rw [hx]
      have HXx := Lib.hid hx
      clear hx
      go_wp2_with fail
      go_roundw
      case measure => simp [intOf]; omega
      have hTs : Turn [X + 2] w3 (w3.setCell ⟨X + 2, k + 1, none⟩ (.int .i64 x)) := (Turn.refl _ _).setCell (.inl (by simp)) _
      refine ⟨k + 1, by omega, by simp, (HR.out.1.turn H3.out.2.1 (by simp)).turn hTs (by simp), by simp [World.setCell]; rw [H3.out.2.2.1]; exact HR.out.2.1, ?_, ?_, (HR.out.2.2.2.2.1.turn H3.out.2.1 (by simp)).turn hTs (by simp), below_turn (below_turn HR.out.2.2.2.2.2 H3.out.2.1 (by simp) (by rw [HR.out.2.1]; omega)) hTs (by simp) (by rw [H3.out.2.2.1, HR.out.2.1]; omega)⟩
      · have := H3.out.2.2.2.set_ (k + 1) (.int .i64 x)
        rw [List.setIfInBounds_toArray, ccL_set _ _ _ _ (giS_cnt _ _) hlt] at this
        rw [← HXx.out] at this ⊢
        exact this
      · obtain ⟨A', m', c', z1, z2, z3, z4⟩ := H3.out.1
        exact ⟨A', m', c', z1.far (by simp) _, z2.turn hTs (fun ad had hm => by have := z3 ad had; simp at hm; omega), z3, z4⟩
    · obtain rfl : k = 5 := by omega
      rw [HC.out.2.2.1] at bCB
      rw [HC.out.2.2.2.2] at hRB
      have HR := Lib.hid (And.intro hsB (And.intro bCB (And.intro hRB (And.intro bRB hBB))))
      clear bP hsB bCB hRB bRB hBB
      go_wp2_with fail
      refine (rbytes_s (X + 1) X 2 _ wr HR.out.2.2.1 (by omega) HL.out.1).mono ?_
      rintro e3 w3 ⟨A3, n3, c3, rfl, hO3, hR3, hT3⟩
      have hz3 := hT3.size
      rw [HV.out.1] at hO3
      have H3 := Lib.hid (And.intro hO3 (And.intro hR3 (And.intro hT3 hz3)))
      clear hO3 hR3 hT3 hz3
      go_wp2_with fail
      refine (rbytes_s (X + 1) X 4 (rc3 l) w3 H3.out.2.1 (by omega) HL.out.2.1).mono ?_
      rintro e4 w4 ⟨A4, n4, c4, rfl, hO4, hR4, hT4⟩
      have hz4 := hT4.size
      rw [HV.out.2.1] at hO4
      have H4 := Lib.hid (And.intro hO4 (And.intro hR4 (And.intro hT4 hz4)))
      clear hO4 hR4 hT4 hz4
      go_wp2_with fail
      refine (rbytes_s (X + 1) X 2 (rc4 l) w4 H4.out.2.1 (by omega) HL.out.2.2.1).mono ?_
      rintro e5 w5 ⟨A5, n5, c5, rfl, hO5, hR5, hT5⟩
      have hz5 := hT5.size
      rw [HV.out.2.2.1] at hO5
      have hT : Turn [X + 1] wr w5 := (H3.out.2.2.1.trans H4.out.2.2.1 (fun _ hx => .inl hx)).trans hT5 (fun _ hx => .inl hx)
      have bC5 := HR.out.2.1.turn hT (by simp)
      have q6 := bC5.cell 6
      have q7 := bC5.cell 7
      have q8 := bC5.cell 8
      simp only [ccL, nil5, List.getElem?_toArray, List.map_cons, List.map_nil, List.replicate_zero, List.nil_append, List.cons_append, List.getElem?_cons_succ, List.getElem?_cons_zero, Nat.sub_self] at q6 q7 q8
      have f6 := bC5.frozen 6
      have f7 := bC5.frozen 7
      have f8 := bC5.frozen 8
      have H5 := Lib.hid (And.intro hO5 (And.intro hR5 (And.intro hT5 (And.intro hz5 (And.intro hT bC5)))))
      clear hO5 hR5 hT5 hz5 hT bC5
      go_wp2_with fail
      obtain ⟨wE, hwE⟩ : ∃ wE, ((w5.setCell ⟨X + 1 + 1, 6, none⟩ (.slice A3 n3 c3)).setCell ⟨X + 1 + 1, 7, none⟩ (.slice A4 n4 c4)).setCell ⟨X + 1 + 1, 8, none⟩ (.slice A5 n5 c5) = wE := ⟨_, rfl⟩
      have hTE : Turn [X + 2] w5 wE := by rw [← hwE]; exact (((Turn.refl _ _).setCell (.inl (by simp)) _).setCell (.inl (by simp)) _).setCell (.inl (by simp)) _
      have bCE : Blk wE (X + 2) 27 #[.int .i64 C.fn, .int .i64 C.ss, .int .i64 C.a, .int .i64 C.b, .int .i64 C.n, .int .i64 C.kd, .slice A3 n3 c3, .slice A4 n4 c4, .slice A5 n5 c5, .slice none 0 0, .slice none 0 0] := by
        rw [← hwE]
        have := ((H5.out.2.2.2.2.2.set_ 6 (.slice A3 n3 c3)).set_ 7 (.slice A4 n4 c4)).set_ 8 (.slice A5 n5 c5)
        simp only [List.setIfInBounds_toArray, ccL, nil5, List.map_cons, List.map_nil, List.replicate_zero, List.nil_append, List.cons_append, List.set_cons_succ, List.set_cons_zero, Nat.sub_self] at this
        exact this
      have hRE : RrS wE (X + 1) X (rc5 l) := by
        obtain ⟨A', m', c', z1, z2, z3, z4⟩ := H5.out.2.1
        exact ⟨A', m', c', z1.turn hTE (by simp), z2.turn hTE (fun ad had hm => by have := z3 ad had; simp at hm; omega), z3, z4⟩
      have hsw := HR.out.1
      have hO3' : Own wE wr.heap.size (.slice A3 n3 c3) C.param := ((H3.out.1.turn H4.out.2.2.1 (fun g hg hm => by have := (H3.out.1.lt hg).1; simp at hm; omega)).turn H5.out.2.2.1 (fun g hg hm => by have := (H3.out.1.lt hg).1; simp at hm; omega)).turn hTE (fun g hg hm => by have := (H3.out.1.lt hg).1; simp at hm; omega)
      have hO4' : Own wE wr.heap.size (.slice A4 n4 c4) C.data := ((H4.out.1.turn H5.out.2.2.1 (fun g hg hm => by have := (H4.out.1.lt hg).1; have := H3.out.2.2.2; simp at hm; omega)).turn hTE (fun g hg hm => by have := (H4.out.1.lt hg).1; have := H3.out.2.2.2; simp at hm; omega)).mono H3.out.2.2.2
      have hO5' : Own wE wr.heap.size (.slice A5 n5 c5) C.more := (H5.out.1.turn hTE (fun g hg hm => by have := (H5.out.1.lt hg).1; have := H3.out.2.2.2; have := H4.out.2.2.2; simp at hm; omega)).mono (Nat.le_trans H3.out.2.2.2 H4.out.2.2.2)
      have bRE : Blk wE X 27 #[.int .i64 0, .int .i64 0, .int .i64 0, .int .i64 0, .int .i64 0, .int .i64 0, .slice none 0 0, .slice none 0 0, .slice none 0 0, .slice none 0 0, .slice none 0 0] := (HR.out.2.2.2.1.turn H5.out.2.2.2.2.1 (by simp)).turn hTE (by simp)
      have hBE : Below X w wE := below_turn (below_turn HR.out.2.2.2.2 H5.out.2.2.2.2.1 (by simp) (by rw [HR.out.1]; omega)) hTE (by simp) (by have := H5.out.2.2.2.2.1.size; rw [HR.out.1] at this; omega)
      have hsE : X + 4 ≤ wE.heap.size := by have h1 := H5.out.2.2.2.2.1.size; have h2 := hTE.size; rw [HR.out.1] at h1; omega
      rw [hwE]
      rw [hsw] at hO3' hO4' hO5'
      have HE := Lib.hid (And.intro bCE (And.intro hRE (And.intro hO3' (And.intro hO4' (And.intro hO5' (And.intro bRE (And.intro hBE hsE)))))))
      clear hwE hTE bCE hRE hO3' hO4' hO5' bRE hBE hsE hsw q6 q7 q8 f6 f7 f8
      refine (rattrs_s (X + 1) X (rc5 l) wE HE.out.2.1 HL.out.2.2.2.1).mono ?_
      rintro e6 w6 ⟨A6, n6, c6, rfl, hO6, hR6, hT6⟩
      have hz6 := hT6.size
      rw [HV.out.2.2.2.1] at hO6
      have H6 := Lib.hid (And.intro hO6 (And.intro hR6 (And.intro hT6 hz6)))
      clear hO6 hR6 hT6 hz6
      go_wp2_with fail
      refine (rattrs_s (X + 1) X (rc6 l) w6 H6.out.2.1 HL.out.2.2.2.2).mono ?_
      rintro e7 w7 ⟨A7, n7, c7, rfl, hO7, hR7, hT7⟩
      have hz7 := hT7.size
      rw [HV.out.2.2.2.2] at hO7
      have hT : Turn [X + 1] wE w7 := H6.out.2.2.1.trans hT7 (fun _ hx => .inl hx)
      have bC7 := HE.out.1.turn hT (by simp)
      have q9 := bC7.cell 9
      have q10 := bC7.cell 10
      simp only [List.getElem?_toArray, List.getElem?_cons_succ, List.getElem?_cons_zero] at q9 q10
      have f9 := bC7.frozen 9
      have f10 := bC7.frozen 10
      have q0 := bC7.cell 0
      have q1 := bC7.cell 1
      have q2 := bC7.cell 2
      have q3 := bC7.cell 3
      have q4 := bC7.cell 4
      have q5 := bC7.cell 5
      have q6 := bC7.cell 6
      have q7 := bC7.cell 7
      have q8 := bC7.cell 8
      simp only [List.getElem?_toArray, List.getElem?_cons_succ, List.getElem?_cons_zero] at q0 q1 q2 q3 q4 q5 q6 q7 q8
      have H7 := Lib.hid (And.intro hO7 (And.intro hR7 (And.intro hT7 (And.intro hz7 (And.intro hT bC7)))))
      clear hO7 hR7 hT7 hz7 hT bC7
      go_wp2_with fail
      obtain ⟨wF, hwF⟩ : ∃ wF, (w7.setCell ⟨X + 1 + 1, 9, none⟩ (.slice A6 n6 c6)).setCell ⟨X + 1 + 1, 10, none⟩ (.slice A7 n7 c7) = wF := ⟨_, rfl⟩
      have hTF : Turn [X + 2] w7 wF := by rw [← hwF]; exact ((Turn.refl _ _).setCell (.inl (by simp)) _).setCell (.inl (by simp)) _
      have bCF : Blk wF (X + 2) 27 #[.int .i64 C.fn, .int .i64 C.ss, .int .i64 C.a, .int .i64 C.b, .int .i64 C.n, .int .i64 C.kd, .slice A3 n3 c3, .slice A4 n4 c4, .slice A5 n5 c5, .slice A6 n6 c6, .slice A7 n7 c7] := by
        rw [← hwF]
        have := (H7.out.2.2.2.2.2.set_ 9 (.slice A6 n6 c6)).set_ 10 (.slice A7 n7 c7)
        simp only [List.setIfInBounds_toArray, List.set_cons_succ, List.set_cons_zero] at this
        exact this
      have hRF : RrS wF (X + 1) X (rc7 l) := by
        obtain ⟨A', m', c', z1, z2, z3, z4⟩ := H7.out.2.1
        exact ⟨A', m', c', z1.turn hTF (by simp), z2.turn hTF (fun ad had hm => by have := z3 ad had; simp at hm; omega), z3, z4⟩
      have hEs := HE.out.2.2.2.2.2.2.2
      have h6s := H6.out.2.2.2
      have h7s := H7.out.2.2.2.1
      have hOwn : ∀ {z : Value} {q : List UInt8}, Own wE (X + 4) z q → Own wF (X + 4) z q := fun {z} {q} hz => (hz.turn H7.out.2.2.2.2.1 (fun g hg hm => by have := (hz.lt hg).1; simp at hm; omega)).turn hTF (fun g hg hm => by have := (hz.lt hg).1; simp at hm; omega)
      have hO6F : OwnAts wF (X + 4) ⟨A6, n6, c6⟩ C.t1 := ((H6.out.1.mono (by omega)).turn H7.out.2.2.1 (by simp)).turn hTF (by simp)
      have hO7F : OwnAts wF (X + 4) ⟨A7, n7, c7⟩ C.t2 := (H7.out.1.mono (by omega)).turn hTF (by simp)
      have hI : CallIs wF wF.heap.size C ⟨A3, n3, c3⟩ ⟨A4, n4, c4⟩ ⟨A5, n5, c5⟩ ⟨A6, n6, c6⟩ ⟨A7, n7, c7⟩ := ⟨RdB.ofRd (hOwn HE.out.2.2.1).rd, RdB.ofRd (hOwn HE.out.2.2.2.1).rd, RdB.ofRd (hOwn HE.out.2.2.2.2.1).rd, hO6F.at_, hO7F.at_, hO6F.max, hO7F.max⟩
      have bRF : Blk wF X 27 #[.int .i64 0, .int .i64 0, .int .i64 0, .int .i64 0, .int .i64 0, .int .i64 0, .slice none 0 0, .slice none 0 0, .slice none 0 0, .slice none 0 0, .slice none 0 0] := (HE.out.2.2.2.2.2.1.turn H7.out.2.2.2.2.1 (by simp)).turn hTF (by simp)
      have hsF : X + 4 ≤ wF.heap.size := by have := hTF.size; omega
      have hBF : Below X w wF := below_turn (below_turn HE.out.2.2.2.2.2.2.1 H7.out.2.2.2.2.1 (by simp) (by omega)) hTF (by simp) (by omega)
      rw [hwF]
      have HOw := Lib.hid (And.intro (hOwn HE.out.2.2.1) (And.intro (hOwn HE.out.2.2.2.1) (And.intro (hOwn HE.out.2.2.2.2.1) (And.intro hO6F hO7F))))
      have HF := Lib.hid (And.intro bCF (And.intro hRF (And.intro hI (And.intro bRF (And.intro hBF hsF)))))
      clear hwF hTF bCF hRF hEs h6s h7s hOwn hO6F hO7F hI bRF hsF hBF f9 f10 q0 q1 q2 q3 q4 q5 q6 q7 q8 q9 q10
      refine (call_o C ⟨A3, n3, c3⟩ ⟨A4, n4, c4⟩ ⟨A5, n5, c5⟩ ⟨A6, n6, c6⟩ ⟨A7, n7, c7⟩ wF HF.out.2.2.1).mono ?_
      rintro e8 w8 ⟨hb8, hres⟩
      obtain ⟨rA, rm, rc, hrB, hrR, hrA, hrp⟩ := HF.out.2.1
      have hbad := (hrB.below hb8).cell 1
      simp only [List.getElem?_toArray, List.getElem?_cons_succ, List.getElem?_cons_zero] at hbad
      have bC8 : Blk w8 (X + 2) 27 #[.int .i64 C.fn, .int .i64 C.ss, .int .i64 C.a, .int .i64 C.b, .int .i64 C.n, .int .i64 C.kd, .slice A3 n3 c3, .slice A4 n4 c4, .slice A5 n5 c5, .slice A6 n6 c6, .slice A7 n7 c7] := HF.out.1.below hb8
      have bR8 : Blk w8 X 27 #[.int .i64 0, .int .i64 0, .int .i64 0, .int .i64 0, .int .i64 0, .int .i64 0, .slice none 0 0, .slice none 0 0, .slice none 0 0, .slice none 0 0, .slice none 0 0] := HF.out.2.2.2.1.below hb8
      have hI8 : CallIs w8 w8.heap.size C ⟨A3, n3, c3⟩ ⟨A4, n4, c4⟩ ⟨A5, n5, c5⟩ ⟨A6, n6, c6⟩ ⟨A7, n7, c7⟩ := (HF.out.2.2.1.old hb8).mono hb8.size
      have hB8 : Below X w w8 := HF.out.2.2.2.2.1.trans (hb8.mono (by have := HF.out.2.2.2.2.2; omega))
      have hl8 : Rd w8 A m c l := H.out.1.below (by rw [← H.out.2.2]; exact hB8)
      have hok0 : rcOk l = (!(rc7 l).2 && match frameO (callO C) with | none => false | some f => decide (f.drop 4 = l)) := by unfold rcOk; rw [HC.out.1]
      have hI9 : ∀ w9, Turn [X] w8 w9 → CallIs w9 w9.heap.size C ⟨A3, n3, c3⟩ ⟨A4, n4, c4⟩ ⟨A5, n5, c5⟩ ⟨A6, n6, c6⟩ ⟨A7, n7, c7⟩ := fun w9 hT9 => by
        have hk : ∀ {z : Value} {q : List UInt8}, Own wF (X + 4) z q → Own w9 (X + 4) z q := fun {z} {q} hz => (hz.below hb8).turn hT9 (fun g hg hm => by have := (hz.lt hg).1; simp at hm; omega)
        have g6 : OwnAts w9 (X + 4) ⟨A6, n6, c6⟩ C.t1 := (HOw.out.2.2.2.1.below hb8).turn hT9 (by simp)
        have g7 : OwnAts w9 (X + 4) ⟨A7, n7, c7⟩ C.t2 := (HOw.out.2.2.2.2.below hb8).turn hT9 (by simp)
        exact ⟨RdB.ofRd (hk HOw.out.1).rd, RdB.ofRd (hk HOw.out.2.1).rd, RdB.ofRd (hk HOw.out.2.2.1).rd, g6.at_, g7.at_, g6.max, g7.max⟩
      have HI9 := Lib.hid hI9
      clear hI9
      have H8 := Lib.hid (And.intro bC8 (And.intro bR8 (And.intro hI8 (And.intro hB8 hl8))))
      have HO := Lib.hid hok0
      clear hb8 bC8 bR8 hI8 hB8 hl8 hok0 hrB hrR hrA hrp
      obtain ⟨bad, hbd⟩ : ∃ bad, (rc7 l).2 = bad := ⟨_, rfl⟩
      rw [hbd] at hbad
      have HBd := Lib.hid hbd
      clear hbd
      rcases hres with ⟨hn, rfl⟩ | ⟨f, hf, Af, nf, cf, rfl, hOf⟩
      · have HN := Lib.hid hn
        clear hn
        cases bad
        · go_wp2_with fail
          refine (same_no none 0 0 A m c w8).mono ?_
          rintro e9 w9' ⟨rfl, rfl⟩
          have hok : rcOk l = false := by rw [HO.out, HN.out]; simp
          go_wp2_with (refine wpList_store_arr rfl 27 (.tmp 2) (.tmp 65) rfl X 27 _ [.int .i64 0, .int .i64 0, .int .i64 0, .int .i64 0, .int .i64 0, .int .i64 0, .slice none 0 0, .slice none 0 0, .slice none 0 0, .slice none 0 0, .slice none 0 0] H8.out.2.1 rfl rfl (by kernel_rfl) rfl rfl ?_; intro w9 hB9 hT9; have H9 := Lib.hid (And.intro hB9 hT9); clear hB9 hT9)
          have z0 := H9.out.1.cell 0
          have z1 := H9.out.1.cell 1
          have z2 := H9.out.1.cell 2
          have z3 := H9.out.1.cell 3
          have z4 := H9.out.1.cell 4
          have z5 := H9.out.1.cell 5
          have z6 := H9.out.1.cell 6
          have z7 := H9.out.1.cell 7
          have z8 := H9.out.1.cell 8
          have z9 := H9.out.1.cell 9
          have z10 := H9.out.1.cell 10
          simp only [List.getElem?_toArray, List.getElem?_cons_succ, List.getElem?_cons_zero] at z0 z1 z2 z3 z4 z5 z6 z7 z8 z9 z10
          refine bodyPost_ret (v := .tuple #[.agg #[.int .i64 0, .int .i64 0, .int .i64 0, .int .i64 0, .int .i64 0, .int .i64 0, .slice none 0 0, .slice none 0 0, .slice none 0 0, .slice none 0 0, .slice none 0 0], .bool false]) (by simp [results, Try.results11, go_sem, z0, z1, z2, z3, z4, z5, z6, z7, z8, z9, z10]) rfl ?_
          unfold RcRes
          rw [hok]
          refine ⟨by rw [← H.out.2.2]; exact below_turn H8.out.2.2.2.1 H9.out.2 (by simp) (by have := H8.out.2.2.2.1.size; rw [← H.out.2.2] at this; exact this), ?_⟩
          exact ⟨zCall, zSl, zSl, zSl, zSl, zSl, rfl, ⟨RdB.nil _ _, RdB.nil _ _, RdB.nil _ _, ⟨rfl, .inl rfl⟩, ⟨rfl, .inl rfl⟩, Nat.zero_le _, Nat.zero_le _⟩, by rw [if_neg (by decide)]⟩
        · have hok : rcOk l = false := by rw [HO.out, HBd.out]; rfl
          go_wp2_with (refine wpList_store_arr rfl 27 (.tmp 2) (.tmp 65) rfl X 27 _ [.int .i64 0, .int .i64 0, .int .i64 0, .int .i64 0, .int .i64 0, .int .i64 0, .slice none 0 0, .slice none 0 0, .slice none 0 0, .slice none 0 0, .slice none 0 0] H8.out.2.1 rfl rfl (by kernel_rfl) rfl rfl ?_; intro w9 hB9 hT9; have H9 := Lib.hid (And.intro hB9 hT9); clear hB9 hT9)
          have z0 := H9.out.1.cell 0
          have z1 := H9.out.1.cell 1
          have z2 := H9.out.1.cell 2
          have z3 := H9.out.1.cell 3
          have z4 := H9.out.1.cell 4
          have z5 := H9.out.1.cell 5
          have z6 := H9.out.1.cell 6
          have z7 := H9.out.1.cell 7
          have z8 := H9.out.1.cell 8
          have z9 := H9.out.1.cell 9
          have z10 := H9.out.1.cell 10
          simp only [List.getElem?_toArray, List.getElem?_cons_succ, List.getElem?_cons_zero] at z0 z1 z2 z3 z4 z5 z6 z7 z8 z9 z10
          refine bodyPost_ret (v := .tuple #[.agg #[.int .i64 0, .int .i64 0, .int .i64 0, .int .i64 0, .int .i64 0, .int .i64 0, .slice none 0 0, .slice none 0 0, .slice none 0 0, .slice none 0 0, .slice none 0 0], .bool false]) (by simp [results, Try.results11, go_sem, z0, z1, z2, z3, z4, z5, z6, z7, z8, z9, z10]) rfl ?_
          unfold RcRes
          rw [hok]
          refine ⟨by rw [← H.out.2.2]; exact below_turn H8.out.2.2.2.1 H9.out.2 (by simp) (by have := H8.out.2.2.2.1.size; rw [← H.out.2.2] at this; exact this), ?_⟩
          exact ⟨zCall, zSl, zSl, zSl, zSl, zSl, rfl, ⟨RdB.nil _ _, RdB.nil _ _, RdB.nil _ _, ⟨rfl, .inl rfl⟩, ⟨rfl, .inl rfl⟩, Nat.zero_le _, Nat.zero_le _⟩, by rw [if_neg (by decide)]⟩
      · have h4 : 4 ≤ nf := by
          rw [hOf.len]
          unfold frameO at hf
          cases hcc : callO C with
          | none => rw [hcc] at hf; cases hf
          | some y =>
            rw [hcc, Option.bind_some] at hf
            split at hf
            · cases hf
            · injection hf with hf; rw [← hf, List.length_append, num_len _ _ (by omega)]; omega
        have HN := Lib.hid (And.intro hf (And.intro hOf h4))
        clear hf hOf h4
        cases bad
        · go_wp2_with fail
          refine (same_any Af nf cf A m c f l w8 HN.out.2.1.rd H8.out.2.2.2.2 HN.out.2.2).mono ?_
          rintro e9 w9' ⟨rfl, rfl⟩
          by_cases hfl : f.drop 4 = l
          · rw [decide_eq_true hfl]
            have hok : rcOk l = true := by rw [HO.out, HBd.out, HN.out.1]; simp [hfl]
            have q0 := H8.out.1.cell 0
            have q1 := H8.out.1.cell 1
            have q2 := H8.out.1.cell 2
            have q3 := H8.out.1.cell 3
            have q4 := H8.out.1.cell 4
            have q5 := H8.out.1.cell 5
            have q6 := H8.out.1.cell 6
            have q7 := H8.out.1.cell 7
            have q8 := H8.out.1.cell 8
            have q9 := H8.out.1.cell 9
            have q10 := H8.out.1.cell 10
            simp only [List.getElem?_toArray, List.getElem?_cons_succ, List.getElem?_cons_zero] at q0 q1 q2 q3 q4 q5 q6 q7 q8 q9 q10
            go_wp2_with (refine wpList_store_arr rfl 27 (.tmp 2) (.tmp 66) rfl X 27 _ [.int .i64 C.fn, .int .i64 C.ss, .int .i64 C.a, .int .i64 C.b, .int .i64 C.n, .int .i64 C.kd, .slice A3 n3 c3, .slice A4 n4 c4, .slice A5 n5 c5, .slice A6 n6 c6, .slice A7 n7 c7] H8.out.2.1 rfl rfl (by kernel_rfl) rfl rfl ?_; intro w9 hB9 hT9; have H9 := Lib.hid (And.intro hB9 hT9); clear hB9 hT9)
            have z0 := H9.out.1.cell 0
            have z1 := H9.out.1.cell 1
            have z2 := H9.out.1.cell 2
            have z3 := H9.out.1.cell 3
            have z4 := H9.out.1.cell 4
            have z5 := H9.out.1.cell 5
            have z6 := H9.out.1.cell 6
            have z7 := H9.out.1.cell 7
            have z8 := H9.out.1.cell 8
            have z9 := H9.out.1.cell 9
            have z10 := H9.out.1.cell 10
            simp only [List.getElem?_toArray, List.getElem?_cons_succ, List.getElem?_cons_zero] at z0 z1 z2 z3 z4 z5 z6 z7 z8 z9 z10
            refine bodyPost_ret (v := .tuple #[.agg #[.int .i64 C.fn, .int .i64 C.ss, .int .i64 C.a, .int .i64 C.b, .int .i64 C.n, .int .i64 C.kd, .slice A3 n3 c3, .slice A4 n4 c4, .slice A5 n5 c5, .slice A6 n6 c6, .slice A7 n7 c7], .bool true]) (by simp [results, Try.results11, go_sem, z0, z1, z2, z3, z4, z5, z6, z7, z8, z9, z10]) rfl ?_
            unfold RcRes
            rw [hok]
            refine ⟨by rw [← H.out.2.2]; exact below_turn H8.out.2.2.2.1 H9.out.2 (by simp) (by have := H8.out.2.2.2.1.size; rw [← H.out.2.2] at this; exact this), ?_⟩
            exact ⟨C, ⟨A3, n3, c3⟩, ⟨A4, n4, c4⟩, ⟨A5, n5, c5⟩, ⟨A6, n6, c6⟩, ⟨A7, n7, c7⟩, rfl, HI9.out _ H9.out.2, by rw [if_pos rfl]; exact HC.out.1.symm⟩
          · rw [decide_eq_false hfl]
            have hok : rcOk l = false := by rw [HO.out, HBd.out, HN.out.1]; simp [hfl]
            go_wp2_with (refine wpList_store_arr rfl 27 (.tmp 2) (.tmp 65) rfl X 27 _ [.int .i64 0, .int .i64 0, .int .i64 0, .int .i64 0, .int .i64 0, .int .i64 0, .slice none 0 0, .slice none 0 0, .slice none 0 0, .slice none 0 0, .slice none 0 0] H8.out.2.1 rfl rfl (by kernel_rfl) rfl rfl ?_; intro w9 hB9 hT9; have H9 := Lib.hid (And.intro hB9 hT9); clear hB9 hT9)
            have z0 := H9.out.1.cell 0
            have z1 := H9.out.1.cell 1
            have z2 := H9.out.1.cell 2
            have z3 := H9.out.1.cell 3
            have z4 := H9.out.1.cell 4
            have z5 := H9.out.1.cell 5
            have z6 := H9.out.1.cell 6
            have z7 := H9.out.1.cell 7
            have z8 := H9.out.1.cell 8
            have z9 := H9.out.1.cell 9
            have z10 := H9.out.1.cell 10
            simp only [List.getElem?_toArray, List.getElem?_cons_succ, List.getElem?_cons_zero] at z0 z1 z2 z3 z4 z5 z6 z7 z8 z9 z10
            refine bodyPost_ret (v := .tuple #[.agg #[.int .i64 0, .int .i64 0, .int .i64 0, .int .i64 0, .int .i64 0, .int .i64 0, .slice none 0 0, .slice none 0 0, .slice none 0 0, .slice none 0 0, .slice none 0 0], .bool false]) (by simp [results, Try.results11, go_sem, z0, z1, z2, z3, z4, z5, z6, z7, z8, z9, z10]) rfl ?_
            unfold RcRes
            rw [hok]
            refine ⟨by rw [← H.out.2.2]; exact below_turn H8.out.2.2.2.1 H9.out.2 (by simp) (by have := H8.out.2.2.2.1.size; rw [← H.out.2.2] at this; exact this), ?_⟩
            exact ⟨zCall, zSl, zSl, zSl, zSl, zSl, rfl, ⟨RdB.nil _ _, RdB.nil _ _, RdB.nil _ _, ⟨rfl, .inl rfl⟩, ⟨rfl, .inl rfl⟩, Nat.zero_le _, Nat.zero_le _⟩, by rw [if_neg (by decide)]⟩
        · have hok : rcOk l = false := by rw [HO.out, HBd.out]; rfl
          go_wp2_with (refine wpList_store_arr rfl 27 (.tmp 2) (.tmp 65) rfl X 27 _ [.int .i64 0, .int .i64 0, .int .i64 0, .int .i64 0, .int .i64 0, .int .i64 0, .slice none 0 0, .slice none 0 0, .slice none 0 0, .slice none 0 0, .slice none 0 0] H8.out.2.1 rfl rfl (by kernel_rfl) rfl rfl ?_; intro w9 hB9 hT9; have H9 := Lib.hid (And.intro hB9 hT9); clear hB9 hT9)
          have z0 := H9.out.1.cell 0
          have z1 := H9.out.1.cell 1
          have z2 := H9.out.1.cell 2
          have z3 := H9.out.1.cell 3
          have z4 := H9.out.1.cell 4
          have z5 := H9.out.1.cell 5
          have z6 := H9.out.1.cell 6
          have z7 := H9.out.1.cell 7
          have z8 := H9.out.1.cell 8
          have z9 := H9.out.1.cell 9
          have z10 := H9.out.1.cell 10
          simp only [List.getElem?_toArray, List.getElem?_cons_succ, List.getElem?_cons_zero] at z0 z1 z2 z3 z4 z5 z6 z7 z8 z9 z10
          refine bodyPost_ret (v := .tuple #[.agg #[.int .i64 0, .int .i64 0, .int .i64 0, .int .i64 0, .int .i64 0, .int .i64 0, .slice none 0 0, .slice none 0 0, .slice none 0 0, .slice none 0 0, .slice none 0 0], .bool false]) (by simp [results, Try.results11, go_sem, z0, z1, z2, z3, z4, z5, z6, z7, z8, z9, z10]) rfl ?_
          unfold RcRes
          rw [hok]
          refine ⟨by rw [← H.out.2.2]; exact below_turn H8.out.2.2.2.1 H9.out.2 (by simp) (by have := H8.out.2.2.2.1.size; rw [← H.out.2.2] at this; exact this), ?_⟩
          exact ⟨zCall, zSl, zSl, zSl, zSl, zSl, rfl, ⟨RdB.nil _ _, RdB.nil _ _, RdB.nil _ _, ⟨rfl, .inl rfl⟩, ⟨rfl, .inl rfl⟩, Nat.zero_le _, Nat.zero_le _⟩, by rw [if_neg (by decide)]⟩
end Go.Proofs.Ytmanpfenmamflaa
