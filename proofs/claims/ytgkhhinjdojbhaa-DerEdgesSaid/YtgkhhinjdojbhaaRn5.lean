/-
  DER: the reference's Int, Nat.
-/
import Derived.Test.YtgkhhinjdojbhaaRnA
import Derived.Test.YtgkhhinjdojbhaaDer19
namespace Go.Proofs.Ytgkhhinjdojbhaa
open Go.RowKit

theorem bl_len32 (v : Nat) : bl v ≤ 32 * (dB 4294967296 v).length := by
  refine bl_le ?_
  rcases Nat.lt_or_ge v (2 ^ (32 * (dB 4294967296 v).length)) with h | h
  · exact h
  · have h2 : v / 4294967296 ^ (dB 4294967296 v).length ≠ 0 := by
      rw [show (4294967296 : Nat) ^ (dB 4294967296 v).length = 2 ^ (32 * (dB 4294967296 v).length) by rw [show (4294967296 : Nat) = 2 ^ 32 from rfl, ← Nat.pow_mul]]
      have := Nat.div_pos h (Nat.pow_pos (by omega))
      omega
    have := (dB_lt (b := 4294967296) (by omega)).2 h2
    omega
set_option maxRecDepth 100000 in
set_option maxHeartbeats 8000000 in
theorem rint_any (A : Option Addr) (m c v : Nat) (w : World) (h : RdC Try.eU w A m (dB 4294967296 v)) (hm : m ≤ 1000) :
    Calls Try.prog 27 #[.slice A m c] w fun e w' => ∃ f : NF, e = .returned f.val ∧ NdR (fun b => w.heap.size ≤ b ∧ b < w'.heap.size) NB w' f (intNd v) ∧ Below w.heap.size w w' := by
  obtain ⟨X, hX⟩ : ∃ X, w.heap.size = X := ⟨_, rfl⟩
  obtain ⟨wA, hwA⟩ : ∃ wA, w.alloc (.cells #[.int .i64 0, .slice none 0 0, .slice none 0 0] 25) = wA := ⟨_, rfl⟩
  have bA : Blk wA X 25 #[.int .i64 0, .slice none 0 0, .slice none 0 0] := by rw [← hwA, ← hX]; exact Blk.new _ _ _
  have hbA : Below w.heap.size w wA := by rw [← hwA]; exact (Below.refl _ _).alloc (Nat.le_refl _) _
  have hsA : wA.heap.size = X + 1 := by rw [← hwA, ← hX]; simp
  have hR := h.below hbA
  have hb := rbits_any A m c v wA hR (by omega)
  have hbl := bl_len32 v
  have hlm := h.1
  obtain ⟨bv, hbv⟩ : ∃ bv, bl v = bv := ⟨_, rfl⟩
  rw [hbv] at hb hbl
  obtain ⟨q, hq⟩ : ∃ q, bv / 8 = q := ⟨_, rfl⟩
  have hq1 : (bv : Int).tdiv 8 = (q : Int) := by rw [Int.tdiv_eq_ediv_of_nonneg (by omega)]; omega
  have hby := rbytes_any A m c v (q + 1) wA hR (by omega) (by omega) (by rw [hbv]; omega)
  rw [show ((q + 1 : Nat) : Int) = (q : Int) + 1 by simp] at hby
  have hqb : q ≤ 10000 := by omega
  have HA := Lib.hid (And.intro bA (And.intro hbA (And.intro hsA (show bl v / 8 = q by rw [hbv]; exact hq))))
  have HY := Lib.hid hby
  have HX := Lib.hid hX
  clear bA hbA hsA hR h hby hbv hq hlm hbl
  go_enter Try.func27, Try.ntmps27
  go_wp2_with fail
  try rw [hX]
  try rw [hwA]
  go_wp2_with fail
  refine hb.mono ?_
  rintro e w1 ⟨rfl, rfl⟩
  clear hb
  go_wp2_with fail
  refine HY.out.mono ?_
  rintro e w2 ⟨A1, n1, c1, rfl, ho, hb2⟩
  have H2 := Lib.hid (And.intro ho (And.intro (HA.out.1.below hb2) (HA.out.2.1.trans (hb2.mono HA.out.2.1.size))))
  clear ho hb2
  go_wp2_with (refine wpList_store_arr rfl 25 (.tmp 2) (.tmp 15) rfl X 25 _ [.int .i64 2, .slice A1 n1 c1, .slice none 0 0] H2.out.2.1 rfl rfl (by kernel_rfl) rfl rfl ?_; intro w9 hB9 hT9; have H9 := Lib.hid (And.intro hB9 hT9); clear hB9 hT9)
  refine bodyPost_ret (node_res1 (f := ⟨2, A1, n1, c1, none, 0, 0⟩) rfl rfl H9.out.1) rfl ?_
  have hb9 : Below w.heap.size w w9 := below_turn H2.out.2.2 H9.out.2 (fun t ht => by simp at ht; omega) H2.out.2.2.size
  have hs := HA.out.2.2.1
  have ho9 := (H2.out.1.turn H9.out.2 (fun g hg => by have := (H2.out.1.lt hg).1; simp; omega)).mono (base' := w.heap.size) (by omega)
  refine ⟨⟨2, A1, n1, c1, none, 0, 0⟩, rfl, ?_, hb9⟩
  unfold intNd
  rw [HA.out.2.2.2]
  exact NdR.leaf ho9 (by decide)
/-- What the reference's Nat gives. -/
def RNatPost (w w' : World) (e : Ending) (n : Nd) : Bool → Prop
  | false => e = .returned (.tuple #[.slice none 0 0, .bool false])
  | true => ∃ A1 n1, e = .returned (.tuple #[.slice A1 n1 n1, .bool true]) ∧ RN w' w.heap.size A1 n1 (beVal n.b)
set_option maxRecDepth 100000 in
set_option maxHeartbeats 8000000 in
theorem rnat_any (P : Nat → Prop) (Z : NF → Prop) (n : Nd) (f : NF) (w : World) (hN : NdR P Z w f n) (hP : ∀ b, P b → b < w.heap.size) (hl : n.b.length ≤ 4000) :
    Calls Try.prog 22 #[f.val] w fun e w' => RNatPost w w' e n n.isNat ∧ Below w.heap.size w w' := by
  obtain ⟨X, hX⟩ : ∃ X, w.heap.size = X := ⟨_, rfl⟩
  obtain ⟨tag, A1, m1, c1, A2, m2, c2⟩ := f
  obtain ⟨wA, hwA⟩ : ∃ wA, w.alloc (.cells #[.int .i64 tag, .slice A1 m1 c1, .slice A2 m2 c2] 25) = wA := ⟨_, rfl⟩
  have bA : Blk wA X 25 #[.int .i64 tag, .slice A1 m1 c1, .slice A2 m2 c2] := by rw [← hwA, ← hX]; exact Blk.new _ _ _
  have hbA : Below w.heap.size w wA := by rw [← hwA]; exact (Below.refl _ _).alloc (Nat.le_refl _) _
  obtain ⟨g0, g1, g2⟩ : wA.cell? ⟨X, 0, none⟩ = some (.int .i64 tag) ∧ wA.cell? ⟨X, 1, none⟩ = some (.slice A1 m1 c1) ∧ wA.cell? ⟨X, 2, none⟩ = some (.slice A2 m2 c2) := by rw [bA.cell, bA.cell, bA.cell]; exact ⟨rfl, rfl, rfl⟩
  have hPA : ∀ b, P b → b < wA.heap.size := fun b hb => by have := hP b hb; have := hbA.size; omega
  have hNA := hN.bel hbA hP
  obtain ⟨htag, hbs⟩ : n.tag = tag ∧ Rd wA A1 m1 c1 n.b := by
    cases hNA with
    | mk _ bs fs ks hb => exact ⟨rfl, hb⟩
  have hc := refMay_any P Z n ⟨tag, A1, m1, c1, A2, m2, c2⟩ wA hNA hPA
  obtain ⟨iv, hiv⟩ : ∃ iv, n.isNat = iv := ⟨_, rfl⟩
  rw [hiv]
  unfold Nd.isNat at hiv
  rw [htag] at hiv
  obtain ⟨mv, hmv⟩ : ∃ mv, n.may = mv := ⟨_, rfl⟩
  rw [hmv] at hc hiv
  have hlb := hbs.1
  have HB := Lib.hid (And.intro hbA (And.intro bA (And.intro hbs hlb)))
  clear hbA bA hN hNA hPA hmv htag hbs hlb
  simp only [NF.val] at hc ⊢
  by_cases h2 : tag = 2
  · subst h2
    rw [show (decide ((2 : Int) = 2) && mv) = mv from rfl] at hiv
    subst hiv
    go_enter Try.func22, Try.ntmps22
    go_wp2_with fail
    try rw [hX]
    try rw [hwA]
    go_wp2_with fail
    refine hc.mono ?_
    rintro e w1 ⟨rfl, hb1⟩
    have H1 := Lib.hid (And.intro (HB.out.2.2.1.below hb1) (HB.out.1.trans (hb1.mono HB.out.1.size)))
    obtain ⟨q0, q1, q2⟩ : w1.cell? ⟨X, 0, none⟩ = some (.int .i64 2) ∧ w1.cell? ⟨X, 1, none⟩ = some (.slice A1 m1 c1) ∧ w1.cell? ⟨X, 2, none⟩ = some (.slice A2 m2 c2) := by rw [(HB.out.2.1.below hb1).cell, (HB.out.2.1.below hb1).cell, (HB.out.2.1.below hb1).cell]; exact ⟨rfl, rfl, rfl⟩
    clear hb1 hc
    cases mv with
    | false =>
      go_wp2_with fail
      go_ret2
      exact ⟨rfl, by first | exact H1.out.2 | (rw [← hX]; exact H1.out.2)⟩
    | true =>
      have hf := rfromBytes_any A1 m1 c1 n.b w1 H1.out.1 (by have := HB.out.2.2.2; omega)
      go_wp2_with fail
      refine hf.mono ?_
      rintro e w2 ⟨A3, n3, rfl, hr, hb2⟩
      have H2 := Lib.hid (And.intro hr (H1.out.2.trans (hb2.mono H1.out.2.size)))
      clear hr hb2
      go_wp2_with fail
      go_ret2
      exact ⟨⟨A3, n3, rfl, H2.out.1.mono H1.out.2.size⟩, by first | exact H2.out.2 | (rw [← hX]; exact H2.out.2)⟩
  · have h2d : (tag == 2) = false := by simp [h2]
    rw [decide_eq_false h2, Bool.false_and] at hiv
    subst hiv
    clear hc
    go_enter Try.func22, Try.ntmps22
    go_wp2_with fail
    try rw [hX]
    try rw [hwA]
    go_wp2_with fail
    go_ret2
    exact ⟨rfl, by first | exact HB.out.1 | (rw [← hX]; exact HB.out.1)⟩
end Go.Proofs.Ytgkhhinjdojbhaa
