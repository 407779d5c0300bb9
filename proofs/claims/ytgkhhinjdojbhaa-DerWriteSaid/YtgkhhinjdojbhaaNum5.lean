/-
  Numbers: 'Bytes'.
-/
import Derived.Test.YtgkhhinjdojbhaaNum4
import Derived.Test.YtgkhhinjdojbhaaApp2
namespace Go.Proofs.Ytgkhhinjdojbhaa
open Go.RowKit

/-- The byte at place k (the lowest: 0) of a number. -/
def byteAt (v k : Nat) : UInt8 := UInt8.ofNat (v / 256 ^ k % 256)
/-- A number in n bytes, the highest first. -/
def beN (n v : Nat) : List UInt8 := (List.range n).map fun j => byteAt v (n - 1 - j)
def rowB (n v i : Nat) : List UInt8 := (List.range n).map fun j => if j < i then byteAt v (n - 1 - j) else 0
theorem rowB_zero (n v : Nat) : rowB n v 0 = zs n := by
  unfold rowB zs
  rw [show (fun j => if j < 0 then byteAt v (n - 1 - j) else 0) = fun _ => (0 : UInt8) by funext j; simp, List.map_const', List.length_range]
theorem rowB_full (n v : Nat) : rowB n v n = beN n v := by
  unfold rowB beN
  refine List.map_congr_left (fun j hj => ?_)
  rw [if_pos (List.mem_range.1 hj)]
theorem rowB_len (n v i : Nat) : (rowB n v i).length = n := by unfold rowB; simp
theorem rowB_step {n v i : Nat} (h : i < n) : rowB n v (i + 1) = (rowB n v i).set i (byteAt v (n - 1 - i)) := by
  refine List.ext_getElem? (fun j => ?_)
  unfold rowB
  rw [List.getElem?_set]
  simp only [List.getElem?_map, List.length_map, List.length_range, List.getElem?_range]
  by_cases hj : j < n
  · rw [List.getElem?_range hj]
    simp only [Option.map_some]
    by_cases e : i = j
    · subst e; rw [if_pos rfl, if_pos h, if_pos (by omega)]
    · rw [if_neg e]
      by_cases h1 : j < i
      · rw [if_pos h1, if_pos (by omega)]
      · rw [if_neg h1, if_neg (by omega)]
  · rw [List.getElem?_eq_none (by simpa using hj)]
    by_cases e : i = j
    · omega
    · rw [if_neg e]; rfl
theorem rowB_set0 {n v i : Nat} (h : i < n) : (rowB n v i).set i 0 = rowB n v i := by
  refine List.ext_getElem? (fun j => ?_)
  rw [List.getElem?_set]
  by_cases e : i = j
  · subst e
    rw [if_pos rfl, if_pos (by rw [rowB_len]; exact h)]
    unfold rowB
    rw [List.getElem?_map, List.getElem?_range h]
    simp
  · rw [if_neg e]
theorem valL_get : ∀ {l : List UInt64} {j : Nat} {x : UInt64}, l[j]? = some x → valL l / 2 ^ (64 * j) % 2 ^ 64 = x.toNat
  | [], j, x, h => by simp at h
  | y :: l, 0, x, h => by
    simp at h; subst h
    have hy := y.toNat_lt
    rw [valL]
    simp only [Nat.mul_zero, Nat.pow_zero, Nat.div_one]
    omega
  | y :: l, j + 1, x, h => by
    have ih := valL_get (l := l) (j := j) (x := x) (by simpa using h)
    have hy := y.toNat_lt
    rw [valL, show 64 * (j + 1) = 64 + 64 * j by omega, Nat.pow_add, ← Nat.div_div_eq_div_mul]
    rw [show (y.toNat + 18446744073709551616 * valL l) / 2 ^ 64 = valL l by omega]
    exact ih
theorem mod_div_mod (y r : Nat) (hr : r < 8) : y % 2 ^ 64 / 2 ^ (r * 8) % 256 = y / 2 ^ (r * 8) % 256 := by
  have e : (2 : Nat) ^ 64 = 2 ^ (r * 8) * (2 ^ (64 - r * 8)) := by rw [← Nat.pow_add]; congr 1; omega
  rw [e, Nat.mod_mul_right_div_self, Nat.mod_mod_of_dvd]
  exact Nat.pow_dvd_pow 2 (show 8 ≤ 64 - r * 8 by omega)
theorem byteAt_limb {l : List UInt64} {k : Nat} {x : UInt64} (h : l[k / 8]? = some x) : byteAt (valL l) k = UInt8.ofNat (x.toNat / 2 ^ (k % 8 * 8) % 256) := by
  unfold byteAt
  rw [← valL_get h, mod_div_mod _ _ (by omega)]
  congr 2
  rw [show (256 : Nat) ^ k = 2 ^ (64 * (k / 8)) * 2 ^ (k % 8 * 8) by rw [← Nat.pow_add, show (256 : Nat) = 2 ^ 8 from rfl, ← Nat.pow_mul]; congr 1; omega, Nat.div_div_eq_div_mul]
theorem byteAt_high {l : List UInt64} {k : Nat} (h : l.length ≤ k / 8) : byteAt (valL l) k = 0 := by
  unfold byteAt
  have h1 := valL_lt l
  have h2 : (18446744073709551616 : Nat) ^ l.length ≤ 256 ^ k := by
    rw [show (18446744073709551616 : Nat) = 256 ^ 8 from rfl, ← Nat.pow_mul]
    exact Nat.pow_le_pow_right (by omega) (by omega)
  rw [Nat.div_eq_of_lt (by omega)]; rfl
set_option maxRecDepth 100000 in
set_option maxHeartbeats 4000000 in
theorem bytes_any (A : Option Addr) (m c : Nat) (l : List UInt64) (n : Nat) (w : World) (h : RdC Try.eU w A m l) (hc : m ≤ c ∧ c ≤ maxLen) (hnil : A = none → c = 0) (hm : m ≤ 1000000) (hn : n ≤ 65536) (hbits : bl (valL l) ≤ 8 * n) :
    Calls Try.prog 44 #[.slice A m c, .int .i64 (n : Int)] w fun e w' => ∃ A1 n1 c1, e = .returned (.tuple #[.slice A1 n1 c1, .bool true]) ∧ Own w' w.heap.size (.slice A1 n1 c1) (beN n (valL l)) ∧ Below w.heap.size w w' := by
  obtain ⟨X, hX⟩ : ∃ X, w.heap.size = X := ⟨_, rfl⟩
  have hb := bits_any A m c l w h hc hnil hm
  have hmk := Try.prog_make n (by omega) w
  obtain ⟨w1, hw1⟩ : ∃ w1, w.alloc (.cells (madeCells #[.int .u8 0] n) 5) = w1 := ⟨_, rfl⟩
  have hO := Own.made w n (by unfold maxLen; omega)
  have hb1 : Below w.heap.size w w1 := by rw [← hw1]; exact (Below.refl _ _).alloc (Nat.le_refl _) _
  rw [hw1, hX] at hO hmk
  rw [← rowB_zero n (valL l)] at hO
  have hml := h.1
  obtain ⟨bv, hbv⟩ : ∃ bv, bl (valL l) = bv := ⟨_, rfl⟩
  rw [hbv] at hb hbits
  have H1 := Lib.hid (And.intro h (And.intro hO (And.intro hb1 hX)))
  clear h hO hb1
  have t1 : ¬ ((n : Int) < 0) := by omega
  have t1d : decide ((n : Int) < 0) = false := decide_eq_false t1
  have t2 : ¬ (65536 : Int) < n := by omega
  have t2d : decide ((65536 : Int) < (n : Int)) = false := decide_eq_false t2
  have t3 : ¬ (8 * (n : Int) < bv) := by omega
  have t3d : decide (8 * (n : Int) < (bv : Int)) = false := decide_eq_false t3
  go_enter Try.func44, Try.ntmps44
  go_wp2_with fail
  refine hb.mono ?_
  rintro e w' ⟨rfl, rfl⟩
  clear hb
  go_wp2_with fail
  try rw [hw1]
  try rw [hX]
  go_wp2_with fail
  go_loopw [26] (fun kk wr => ∃ i : Nat, i ≤ n ∧ kk = .int .i64 (i : Int) ∧ Own wr X (.slice (some ⟨X, 0, none⟩) n n) (rowB n (valL l) i) ∧ Turn [X] w1 wr) (fun kk _ => n - (intOf kk).toNat)
  case atStart => exact ⟨0, by omega, rfl, H1.out.2.1, Turn.refl _ _⟩
  case round =>
    obtain ⟨i, hi, rfl, hO, hT⟩ := hrel
    have hbw : Below X w wr := by have := below_turn (H1.out.2.2.1) hT (fun t ht => by simp at ht; have := H1.out.2.2.2; omega) H1.out.2.2.1.size; rwa [H1.out.2.2.2] at this
    have hR : RdC Try.eU wr A m l := H1.out.1.below (by rw [H1.out.2.2.2]; exact hbw)
    by_cases hlt : i < n
    · have hlti : (i : Int) < n := by omega
      have hltd : decide ((i : Int) < (n : Int)) = true := decide_eq_true hlti
      have hi0 : ¬ ((i : Int) < 0) := by omega
      obtain ⟨k, hk⟩ : ∃ k, n - 1 - i = k := ⟨_, rfl⟩
      have hk1 : (n : Int) - 1 - i = k := by omega
      obtain ⟨q, hqq⟩ : ∃ q, k / 8 = q := ⟨_, rfl⟩
      obtain ⟨r, hrr⟩ : ∃ r, k % 8 = r := ⟨_, rfl⟩
      have hk2 : (k : Int).tdiv 8 = (q : Int) := by rw [Int.tdiv_eq_ediv_of_nonneg (by omega)]; omega
      have hk3 : (k : Int).tmod 8 = (r : Int) := by rw [Int.tmod_eq_emod_of_nonneg (by omega)]; omega
      have hr8 : r < 8 := by omega
      have hqb : (q : Int) ≤ 8192 := by omega
      have hst := rowB_step (v := valL l) hlt
      rw [hk] at hst
      by_cases hq : q < m
      · have hqi : (q : Int) < m := by omega
        have hqd : decide ((q : Int) < (m : Int)) = true := decide_eq_true hqi
        have hq0 : ¬ ((q : Int) < 0) := by omega
        obtain ⟨x, hx⟩ : ∃ x, l[q]? = some x := ⟨_, List.getElem?_eq_getElem (by omega)⟩
        obtain ⟨g, off, hAe, cx⟩ := limb_at hR hx
        subst hAe
        have hby := byteAt_limb (k := k) (by rw [hqq]; exact hx)
        rw [hrr] at hby
        have hxl := x.toNat_lt
        have fr := hO.frozen i
        obtain ⟨z, cz⟩ : ∃ z, wr.cell? ⟨X, i, none⟩ = some z := ⟨_, by have := hO.at_.cell (k := i) (by rw [rowB_len]; exact hlt); rw [Nat.zero_add] at this; exact this⟩
        have HS := Lib.hid (And.intro hO (And.intro hT (And.intro hst hby)))
        clear hO hT hst hby hx hbw hR hqq hrr
        go_wp2_with fail
        go_roundw
        case measure => simp [intOf]; omega
        have hB : B (byteAt (valL l) k) = .int .u8 ((x.toNat : Int) / 2 ^ (r * 8) % 256) := by rw [HS.out.2.2.2]; unfold B; rw [byte_nat]; simp
        have hO2 := HS.out.1.set_ i (byteAt (valL l) k) hlt
        rw [← HS.out.2.2.1, hB] at hO2
        exact ⟨i + 1, by omega, by simp, hO2, HS.out.2.1.setCell (.inl (by simp)) _⟩
      · have hqi : ¬ (q : Int) < m := by omega
        have hqd : decide ((q : Int) < (m : Int)) = false := decide_eq_false hqi
        have hby := byteAt_high (l := l) (k := k) (by omega)
        have HS := Lib.hid (And.intro hO (And.intro hT (And.intro hst hby)))
        clear hO hT hst hby hbw hR hqq hrr
        go_wp2_with fail
        go_roundw
        case measure => simp [intOf]; omega
        refine ⟨i + 1, by omega, by simp, ?_, HS.out.2.1⟩
        rw [HS.out.2.2.1, HS.out.2.2.2, rowB_set0 hlt]
        exact HS.out.1
    · obtain rfl : i = n := by omega
      have hlti : ¬ (i : Int) < i := by omega
      rw [rowB_full] at hO
      have HS := Lib.hid (And.intro hO hbw)
      clear hO hT hbw hR
      go_wp2_with fail
      go_ret2
      exact ⟨_, _, _, rfl, HS.out.1, HS.out.2⟩
end Go.Proofs.Ytgkhhinjdojbhaa
