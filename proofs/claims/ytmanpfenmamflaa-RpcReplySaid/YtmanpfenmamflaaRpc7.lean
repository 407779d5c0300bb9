/-
  The reader: take, get, bytes.
-/
import Derived.Test.YtmanpfenmamflaaRpc6
namespace Go.Proofs.Ytmanpfenmamflaa
open Go.RowKit

/-- The reader at p has the bytes l left, which lie below base. -/
def Rr (W : World) (p base : Nat) (l : List UInt8) (bad : Bool) : Prop :=
  ∃ A m c, Blk W p 68 #[.slice A m c, .bool bad] ∧ Rd W A m c l ∧ (∀ ad, A = some ad → ad.block < base) ∧ base ≤ p
theorem Rr.old {W W' : World} {p base : Nat} {l : List UInt8} {bad : Bool} (h : Rr W p base l bad) (hb : Below W.heap.size W W') : Rr W' p base l bad := by
  obtain ⟨A, m, c, h1, h2, h3, h4⟩ := h
  exact ⟨A, m, c, h1.below hb, h2.below hb, h3, h4⟩
theorem Rr.lt {W : World} {p base : Nat} {l : List UInt8} {bad : Bool} (h : Rr W p base l bad) : p < W.heap.size := by
  obtain ⟨A, m, c, h1, h2, h3, h4⟩ := h
  exact h1.lt
/-- What is left behind n bytes; whether they were there; the bytes. -/
def tkL (l : List UInt8) (n : Nat) : List UInt8 := if l.length < n then [] else l.drop n
def tkB (l : List UInt8) (bad : Bool) (n : Nat) : Bool := if l.length < n then true else bad
def tkO (l : List UInt8) (n : Nat) : List UInt8 := if l.length < n then [] else l.take n
theorem rd_of_len {w : World} {A : Option Addr} {m c : Nat} {l : List UInt8} (h : Rd w A m c l) : l.length = m := h.1.symm
set_option maxHeartbeats 1000000 in
theorem take_any (p base n : Nat) (l : List UInt8) (bad : Bool) (w : World) (h : Rr w p base l bad) (hn : n ≤ 4294967296) :
    Calls Try.prog 40 #[.pointer (some ⟨p, 0, none⟩), .int .i64 (n : Int)] w fun e w' => Rr w' p base (tkL l n) (tkB l bad n) ∧ Turn [p] w w' ∧ w'.heap.size = w.heap.size ∧ ∃ A m c, e = .returned (.slice A m c) ∧ Rd w' A m c (tkO l n) ∧ (∀ ad, A = some ad → ad.block < base) := by
  obtain ⟨A, m, c, hb, hr, hA, hp⟩ := h
  have hm := hr.1
  have hmc := hr.2.1
  have hcc := hr.2.2.1
  unfold maxLen at hcc
  have c0 := hb.cell 0
  have c1 := hb.cell 1
  have f0 := hb.frozen 0
  have f1 := hb.frozen 1
  simp only [List.getElem?_toArray, List.getElem?_cons_succ, List.getElem?_cons_zero] at c0 c1
  have H := Lib.hid (And.intro hb (And.intro hr (And.intro hA hp)))
  by_cases hlt : m < n
  · have hi : (m : Int) < n := by omega
    have hd : decide ((m : Int) < n) = true := decide_eq_true hi
    have e1 : tkL l n = [] := if_pos (by omega)
    have e2 : tkB l bad n = true := if_pos (by omega)
    have e3 : tkO l n = [] := if_pos (by omega)
    rw [e1, e2, e3]
    clear e1 e2 e3 hb hr hA hp hm
    go_enter Try.func40, Try.ntmps40
    go_wp2_with fail
    go_ret
    have hb2 := (H.out.1.set_ 1 (.bool true)).set_ 0 (.slice none 0 0)
    have hT := ((Turn.refl [p] w).setCell (p := ⟨p, 1, none⟩) (.inl (by simp)) (.bool true)).setCell (p := ⟨p, 0, none⟩) (.inl (by simp)) (.slice none 0 0)
    exact ⟨⟨none, 0, 0, hb2, Rd.nil _, (fun _ h => by cases h), H.out.2.2.2⟩, hT, by simp [World.setCell], none, 0, 0, rfl, Rd.nil _, (fun _ h => by cases h)⟩
  · have hi : ¬ (m : Int) < n := by omega
    have hd : decide ((m : Int) < n) = false := decide_eq_false hi
    have e1 : tkL l n = l.drop n := if_neg (by omega)
    have e2 : tkB l bad n = bad := if_neg (by omega)
    have e3 : tkO l n = l.take n := if_neg (by omega)
    rw [e1, e2, e3]
    have hs1 := slice_to A m c n hr.spot (by omega) w
    obtain ⟨A2, n2, c2, hn2, hs2, hr2, hA2⟩ := hr.cut_ex2 (k := n) (by omega)
    have hs2' := hs2 w
    have H2 := Lib.hid (And.intro hr2 (And.intro hA2 (hr.front (k := n) (by omega))))
    clear e1 e2 e3 hb hr hA hp hm hs2 hr2 hA2
    go_enter Try.func40, Try.ntmps40
    go_wp2_with fail
    go_ret
    have hT := (Turn.refl [p] w).setCell (p := ⟨p, 0, none⟩) (.inl (by simp)) (.slice A2 (m - n) c2)
    have hlp : ∀ ad, A = some ad → ad.block ≠ p := fun ad had => by have := H.out.2.2.1 ad had; have := H.out.2.2.2; omega
    have hl2 : ∀ ad, A2 = some ad → ad.block < base := fun ad had => by obtain ⟨ad', h1, h2⟩ := H2.out.2.1 ad had; rw [h2]; exact H.out.2.2.1 ad' h1
    subst hn2
    refine ⟨⟨A2, m - n, c2, H.out.1.set_ 0 _, H2.out.1.turn hT (fun ad had => ?_), hl2, H.out.2.2.2⟩, hT, by simp [World.setCell], A, n, c, rfl, H2.out.2.2.turn hT (fun ad had => ?_), H.out.2.2.1⟩
    · have := hl2 ad had; have := H.out.2.2.2; simp; omega
    · have := hlp ad had; simpa using this
/-- A number, the highest byte first. -/
def be (l : List UInt8) : Nat := l.foldl (fun n x => n * 256 + x.toNat) 0
theorem be_succ (l : List UInt8) (x : UInt8) : be (l ++ [x]) = be l * 256 + x.toNat := by unfold be; rw [List.foldl_append]; rfl
theorem be_lt' : ∀ (l : List UInt8) (a : Nat), l.foldl (fun n x => n * 256 + x.toNat) a < (a + 1) * 256 ^ l.length
  | [], a => by simp
  | x :: l, a => by
    have h := be_lt' l (a * 256 + x.toNat)
    have hx := x.toNat_lt
    rw [List.foldl_cons, List.length_cons, Nat.pow_succ]
    refine Nat.lt_of_lt_of_le h ?_
    rw [show (a + 1) * (256 ^ l.length * 256) = ((a + 1) * 256) * 256 ^ l.length by rw [Nat.mul_assoc, Nat.mul_comm (256 ^ l.length) 256]]
    exact Nat.mul_le_mul_right _ (by omega)
theorem be_lt (l : List UInt8) : be l < 256 ^ l.length := by have := be_lt' l 0; unfold be; omega
theorem bits_or_i64 (a b : Nat) (ha : a < 9223372036854775808) (hb : b < 9223372036854775808) : bits .or .i64 (a : Int) (b : Int) = ((a ||| b : Nat) : Int) := by
  have hx : a ||| b < 2 ^ 63 := Nat.or_lt_two_pow (by omega) (by omega)
  have h1 : (BitVec.ofInt 64 (a : Int)).toNat = a := by
    rw [BitVec.ofInt_natCast, BitVec.toNat_ofNat]; exact Nat.mod_eq_of_lt (by omega)
  have h2 : (BitVec.ofInt 64 (b : Int)).toNat = b := by
    rw [BitVec.ofInt_natCast, BitVec.toNat_ofNat]; exact Nat.mod_eq_of_lt (by omega)
  show IntKind.i64.wrap ((BitVec.ofInt 64 (a : Int) ||| BitVec.ofInt 64 (b : Int)).toNat : Int) = _
  rw [BitVec.toNat_or, h1, h2, IntWalk.i64_in _ (by omega)]
theorem or_be (N : Nat) (x : UInt8) (h : N < 16777216) : bits .or .i64 ((N : Int) * 256) (wrap64 (x.toNat : Int)) = ((N * 256 + x.toNat : Nat) : Int) := by
  have hx := x.toNat_lt
  have e1 : wrap64 (x.toNat : Int) = (x.toNat : Int) := by unfold wrap64; omega
  rw [e1, show (N : Int) * 256 = ((N * 256 : Nat) : Int) by omega, bits_or_i64 _ _ (by omega) (by omega)]
  have := Nat.two_pow_add_eq_or_of_lt (i := 8) (b := x.toNat) (by omega) N
  rw [show 2 ^ 8 * N = N * 256 by omega] at this
  rw [← this]
set_option maxHeartbeats 1000000 in
theorem get_any (p base size : Nat) (l : List UInt8) (bad : Bool) (w : World) (h : Rr w p base l bad) (hn : size ≤ 4) :
    Calls Try.prog 30 #[.pointer (some ⟨p, 0, none⟩), .int .i64 (size : Int)] w fun e w' => e = .returned (.int .i64 (be (tkO l size) : Int)) ∧ Rr w' p base (tkL l size) (tkB l bad size) ∧ Turn [p] w w' ∧ w'.heap.size = w.heap.size := by
  have H := Lib.hid h
  clear h
  go_enter Try.func30, Try.ntmps30
  go_wp2_with fail
  refine (take_any p base size l bad w H.out (by omega)).mono ?_
  rintro e w1 ⟨hR, hT, hs, A, m, c, rfl, hrd, hA⟩
  have hm := hrd.1
  have hm4 : m ≤ 4 := by
    rw [hm]; unfold tkO
    split
    · simp
    · rw [List.length_take]; omega
  have HR := Lib.hid (And.intro hR (And.intro hT (And.intro hs (And.intro hrd hm))))
  clear hR hT hs hrd hA hm
  go_wp2_with fail
  go_loopw [5, 12] (fun acc kk wr => ∃ k : Nat, k ≤ m ∧ kk = .int .i64 (k : Int) ∧ acc = .int .i64 (be ((tkO l size).take k) : Int) ∧ wr = w1) (fun _ kk _ => m - (intOf kk).toNat)
  case atStart => exact ⟨0, by omega, rfl, rfl, rfl⟩
  case round =>
    obtain ⟨k, hk, rfl, rfl, rfl⟩ := hrel
    by_cases hlt : k < m
    · have hi : (k : Int) < m := by omega
      have hd : decide ((k : Int) < m) = true := decide_eq_true hi
      have hk0 : ¬ ((k : Int) < 0) := by omega
      obtain ⟨b, off, rfl, hat⟩ := HR.out.2.2.2.1.addr (by omega)
      obtain ⟨x, hx⟩ : ∃ x, (tkO l size)[k]? = some x := ⟨_, List.getElem?_eq_getElem (by have := HR.out.2.2.2.2; omega)⟩
      have ck := hat.2 k x hx
      unfold B at ck
      obtain ⟨N, hN⟩ : ∃ N, be ((tkO l size).take k) = N := ⟨_, rfl⟩
      have hNl : N < 16777216 := by
        rw [← hN]
        refine Nat.lt_of_lt_of_le (be_lt _) (Nat.le_trans (Nat.pow_le_pow_right (by omega) (show _ ≤ 3 by rw [List.length_take]; omega)) (by decide))
      have hnext : be ((tkO l size).take (k + 1)) = N * 256 + x.toNat := by rw [List.take_add_one, hx, Option.toList_some, be_succ, hN]
      rw [hN]
      have HX := Lib.hid (And.intro hx (And.intro hN hnext))
      clear hat hx hN hnext
      go_wp2_with fail
      refine ⟨⟨k + 1, by omega, by simp, ?_, trivial⟩, by simp [intOf]; omega⟩
      rw [or_be N x hNl, HX.out.2.2]
    · have hi : ¬ (k : Int) < m := by omega
      have hd : decide ((k : Int) < m) = false := decide_eq_false hi
      go_wp2_with fail
      go_ret
      rw [List.take_of_length_le (by have := HR.out.2.2.2.2; omega)]
      refine ⟨?_, HR.out.1, HR.out.2.1, HR.out.2.2.1⟩
      rfl
/-- The bytes behind a length of so many bytes: what is left, whether all was there, the bytes. -/
def ryL (l : List UInt8) (size : Nat) : List UInt8 := tkL (tkL l size) (be (tkO l size))
def ryB (l : List UInt8) (bad : Bool) (size : Nat) : Bool := tkB (tkL l size) (tkB l bad size) (be (tkO l size))
def ryO (l : List UInt8) (size : Nat) : List UInt8 := tkO (tkL l size) (be (tkO l size))
theorem be_tkO (l : List UInt8) (size : Nat) (h : size ≤ 4) : be (tkO l size) < 4294967296 := by
  refine Nat.lt_of_lt_of_le (be_lt _) (Nat.le_trans (Nat.pow_le_pow_right (by omega) (show _ ≤ 4 from ?_)) (by decide))
  unfold tkO
  split
  · simp
  · rw [List.length_take]; omega
theorem clone_own (A : Option Addr) (m c : Nat) (l : List UInt8) (w : World) (h : Rd w A m c l) (hm : m ≤ 100000000000) :
    Calls Try.prog 36 #[.slice A m c] w fun e w' => ∃ A' n' c', e = .returned (.slice A' n' c') ∧ Own w' w.heap.size (.slice A' n' c') l ∧ Below w.heap.size w w' := by
  obtain ⟨h1, h2, h3, ⟨rfl, hc⟩ | ⟨b, off, rfl, h4⟩⟩ := h
  · obtain rfl : m = 0 := by omega
    obtain rfl : l = [] := List.length_eq_zero_iff.1 h1.symm
    subst hc
    refine (clone_nil w).mono ?_
    rintro e w' ⟨rfl, rfl⟩
    exact ⟨_, _, _, rfl, Own.nil _ _, Below.refl _ _⟩
  · refine (clone_any b off m c l w h4 h1 (by omega)).mono ?_
    rintro e w' ⟨g, c', rfl, ho, hb⟩
    exact ⟨_, _, _, rfl, ho, hb⟩
set_option maxHeartbeats 1000000 in
theorem rbytes_any (p base size : Nat) (l : List UInt8) (bad : Bool) (w : World) (h : Rr w p base l bad) (hn : size ≤ 4) (hl : l.length ≤ 100000000) :
    Calls Try.prog 31 #[.pointer (some ⟨p, 0, none⟩), .int .i64 (size : Int)] w fun e w' => ∃ A m c, e = .returned (.slice A m c) ∧ Own w' w.heap.size (.slice A m c) (ryO l size) ∧ Rr w' p base (ryL l size) (ryB l bad size) ∧ Turn [p] w w' := by
  have H := Lib.hid h
  have HL := Lib.hid hl
  clear h hl
  go_enter Try.func31, Try.ntmps31
  go_wp2_with fail
  refine (get_any p base size l bad w H.out hn).mono ?_
  rintro e w1 ⟨rfl, hR, hT, hs⟩
  have H1 := Lib.hid (And.intro hR (And.intro hT hs))
  clear hR hT hs
  go_wp2_with fail
  refine (take_any p base (be (tkO l size)) _ _ w1 H1.out.1 (by have := be_tkO l size hn; omega)).mono ?_
  rintro e w2 ⟨hR, hT, hs, A, m, c, rfl, hrd, hA⟩
  have H2 := Lib.hid (And.intro hR (And.intro hT (And.intro hs (And.intro hrd hA))))
  clear hR hT hs hrd hA
  go_wp2_with fail
  refine (clone_own A m c _ w2 H2.out.2.2.2.1 (by
    have h1 := H2.out.2.2.2.1.1
    have h2 := HL.out
    have h3 : ∀ (y : List UInt8) k, (tkO y k).length ≤ y.length := fun y k => by unfold tkO; split <;> simp; omega
    have h4 : ∀ (y : List UInt8) k, (tkL y k).length ≤ y.length := fun y k => by unfold tkL; split <;> simp
    have h5 := h3 (tkL l size) (be (tkO l size))
    have h6 := h4 l size
    omega)).mono ?_
  rintro e w3 ⟨A', n', c', rfl, hO, hB⟩
  have H3 := Lib.hid (And.intro hO hB)
  clear hO hB
  go_wp2_with fail
  go_ret
  have hT : Turn [p] w w3 := (H1.out.2.1.trans H2.out.2.1 (fun _ hx => .inl hx)).trans (Turn.of_below [] H3.out.2) (fun _ hx => by cases hx)
  exact ⟨A', n', c', rfl, H3.out.1.mono (by have := H1.out.2.2; have := H2.out.2.2.1; omega), H2.out.1.old H3.out.2, hT⟩
end Go.Proofs.Ytmanpfenmamflaa
