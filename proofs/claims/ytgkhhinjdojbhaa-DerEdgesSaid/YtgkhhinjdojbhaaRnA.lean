/-
  Numbers as digits, the lowest first, to a base: plainly.
  The reference's numbers: trim, From, Of.
  The reference's numbers: Of, To, Is.
  The reference's numbers: Bits, Bytes.
  The reference's numbers: FromBytes.
-/
import Derived.Test.YtgkhhinjdojbhaaNumA
import Derived.StillTailTactics
namespace Go.Proofs.Ytgkhhinjdojbhaa

def valB (b : Nat) : List UInt64 → Nat | [] => 0 | x :: l => x.toNat + b * valB b l
theorem valB_64 (l : List UInt64) : valB 18446744073709551616 l = valL l := by
  induction l with
  | nil => rfl
  | cons x l ih => rw [valB, valL, ih]
def dB (b n : Nat) : List UInt64 := if h : n = 0 ∨ b < 2 then [] else UInt64.ofNat (n % b) :: dB b (n / b)
termination_by n
decreasing_by
  have h1 : n ≠ 0 := fun e => h (.inl e)
  have h2 : ¬ b < 2 := fun e => h (.inr e)
  exact Nat.div_lt_self (by omega) (by omega)
theorem dB_zero (b : Nat) : dB b 0 = [] := by rw [dB, dif_pos (.inl rfl)]
theorem dB_pos {b n : Nat} (hb : 2 ≤ b) (hn : n ≠ 0) : dB b n = UInt64.ofNat (n % b) :: dB b (n / b) := by rw [dB, dif_neg (by omega)]
theorem dB_get {b : Nat} (hb : 2 ≤ b) : ∀ (j n : Nat), (dB b n)[j]? = if n / b ^ j = 0 then none else some (UInt64.ofNat (n / b ^ j % b))
  | 0, n => by
    rw [Nat.pow_zero, Nat.div_one]
    by_cases hn : n = 0
    · subst hn; rw [dB_zero, if_pos rfl]; rfl
    · rw [dB_pos hb hn, if_neg hn]; rfl
  | j + 1, n => by
    by_cases hn : n = 0
    · subst hn; rw [dB_zero, Nat.zero_div, if_pos rfl]; rfl
    · rw [dB_pos hb hn, List.getElem?_cons_succ, dB_get hb j (n / b), Nat.div_div_eq_div_mul, ← Nat.pow_succ']
theorem dB_lt {b n j : Nat} (hb : 2 ≤ b) : j < (dB b n).length ↔ n / b ^ j ≠ 0 := by
  have h := dB_get hb j n
  constructor
  · intro hj
    rw [List.getElem?_eq_getElem hj] at h
    intro h0
    rw [if_pos h0] at h
    cases h
  · intro h0
    rw [if_neg h0] at h
    exact (List.getElem?_eq_some_iff.1 h).1
theorem dB_len {b n k : Nat} (hb : 2 ≤ b) (h : n < b ^ k) : (dB b n).length ≤ k := by
  rcases Nat.lt_or_ge k (dB b n).length with h1 | h1
  · have := (dB_lt hb).1 h1
    rw [Nat.div_eq_of_lt h] at this
    omega
  · exact h1
theorem dB_small {b n : Nat} (hb : 2 ≤ b) (hb2 : b ≤ 18446744073709551616) : ∀ x ∈ dB b n, x.toNat < b := by
  intro x hx
  obtain ⟨j, hj⟩ := List.getElem?_of_mem hx
  rw [dB_get hb] at hj
  split at hj
  · cases hj
  · injection hj with hj
    subst hj
    rw [UInt64.toNat_ofNat']
    have := Nat.mod_lt (n / b ^ j) (show 0 < b by omega)
    exact Nat.lt_of_le_of_lt (Nat.mod_le _ _) this
theorem valB_dB {b : Nat} (hb : 2 ≤ b) (hb2 : b ≤ 18446744073709551616) (n : Nat) : valB b (dB b n) = n := by
  induction n using Nat.strongRecOn with
  | _ n ih =>
  by_cases hn : n = 0
  · subst hn; rw [dB_zero, valB]
  · rw [dB_pos hb hn, valB, ih (n / b) (Nat.div_lt_self (by omega) (by omega)), UInt64.toNat_ofNat', Nat.mod_eq_of_lt (Nat.lt_of_lt_of_le (Nat.mod_lt n (by omega)) hb2)]
    exact Nat.mod_add_div n b
theorem trimL_cons (x : UInt64) (l : List UInt64) : trimL (x :: l) = if x = 0 ∧ trimL l = [] then [] else x :: trimL l := by
  unfold trimL
  rw [List.reverse_cons, List.dropWhile_append]
  by_cases h : (List.dropWhile (fun x => x == 0) l.reverse) = []
  · rw [h]
    by_cases hx : x = 0
    · subst hx; simp
    · simp [hx]
  · have h2 : (List.dropWhile (fun x => x == 0) l.reverse).isEmpty = false := by
      cases hc : List.dropWhile (fun x => x == 0) l.reverse with
      | nil => exact absurd hc h
      | cons _ _ => rfl
    rw [h2, if_neg (by simp), if_neg (by simp [h]), List.reverse_append]
    rfl
theorem valB_trim0 {b : Nat} (hb : 2 ≤ b) : ∀ l : List UInt64, valB b l = 0 ↔ trimL l = []
  | [] => by simp [valB, trimL_nil]
  | x :: l => by
    rw [valB, trimL_cons]
    have ih := valB_trim0 hb l
    have hx := u64_zero x
    constructor
    · intro h
      have h1 : x.toNat = 0 := by omega
      have h2 : valB b l = 0 := by
        rcases Nat.eq_zero_or_pos (valB b l) with h3 | h3
        · exact h3
        · have : b * 1 ≤ b * valB b l := Nat.mul_le_mul_left _ h3
          omega
      rw [if_pos ⟨hx.2 (by omega), ih.1 h2⟩]
    · intro h
      split at h
      · rename_i hc
        rw [ih.2 hc.2]
        have := hx.1 hc.1
        omega
      · cases h
/-- Digits without noughts at the end are the digits of their number. -/
theorem trim_dB {b : Nat} (hb : 2 ≤ b) : ∀ l : List UInt64, (∀ x ∈ l, x.toNat < b) → trimL l = dB b (valB b l)
  | [], _ => by rw [valB, dB_zero, trimL_nil]
  | x :: l, hd => by
    have ih := trim_dB hb l (fun y hy => hd y (by simp [hy]))
    have hx := hd x (by simp)
    rw [trimL_cons, valB]
    have h0 := valB_trim0 hb l
    by_cases hc : x = 0 ∧ trimL l = []
    · rw [if_pos hc, h0.2 hc.2, Nat.mul_zero, hc.1]
      exact (dB_zero b).symm
    · have hn : x.toNat + b * valB b l ≠ 0 := by
        intro h
        refine hc ⟨(u64_zero x).2 (by omega), h0.1 ?_⟩
        rcases Nat.eq_zero_or_pos (valB b l) with h3 | h3
        · exact h3
        · have : b * 1 ≤ b * valB b l := Nat.mul_le_mul_left _ h3
          omega
      rw [if_neg hc, dB_pos hb hn, ih, Nat.add_mul_mod_self_left, Nat.mod_eq_of_lt hx, Nat.add_mul_div_left _ _ (by omega), Nat.div_eq_of_lt hx, Nat.zero_add]
      congr 1
      exact (UInt64.ofNat_toNat).symm
theorem trim_d64 (l : List UInt64) : trimL l = dB 18446744073709551616 (valL l) := by
  rw [← valB_64]
  exact trim_dB (by omega) l (fun x _ => x.toNat_lt)
/-- The digits, as many as are asked for. -/
def limbs32 (N v : Nat) : List UInt64 := (List.range N).map fun q => UInt64.ofNat (v / 4294967296 ^ q % 4294967296)
theorem limbs32_len (N v : Nat) : (limbs32 N v).length = N := by unfold limbs32; simp
theorem limbs32_get {N v q : Nat} (h : q < N) : (limbs32 N v)[q]? = some (UInt64.ofNat (v / 4294967296 ^ q % 4294967296)) := by unfold limbs32; simp [h]
theorem limbs32_succ (N v : Nat) : limbs32 (N + 1) v = UInt64.ofNat (v % 4294967296) :: limbs32 N (v / 4294967296) := by
  unfold limbs32
  rw [List.range_succ_eq_map, List.map_cons, List.map_map]
  congr 1
  · rw [Nat.pow_zero, Nat.div_one]
  · refine List.map_congr_left (fun q _ => ?_)
    show UInt64.ofNat (v / 4294967296 ^ (q + 1) % 4294967296) = _
    rw [Nat.pow_succ', Nat.div_div_eq_div_mul]
theorem limbs32_small {N v : Nat} : ∀ x ∈ limbs32 N v, x.toNat < 4294967296 := by
  intro x hx
  unfold limbs32 at hx
  rw [List.mem_map] at hx
  obtain ⟨q, _, rfl⟩ := hx
  rw [UInt64.toNat_ofNat']
  exact Nat.lt_of_le_of_lt (Nat.mod_le _ _) (Nat.mod_lt _ (by omega))
theorem valB_limbs32 : ∀ (N v : Nat), v < 4294967296 ^ N → valB 4294967296 (limbs32 N v) = v
  | 0, v, h => by simp at h; subst h; rfl
  | N + 1, v, h => by
    rw [limbs32_succ, valB, valB_limbs32 N (v / 4294967296) (by rw [Nat.pow_succ] at h; rw [Nat.div_lt_iff_lt_mul (by decide)]; exact h), UInt64.toNat_ofNat']
    omega
theorem trim_limbs32 {N v : Nat} (h : v < 4294967296 ^ N) : trimL (limbs32 N v) = dB 4294967296 v := by
  rw [trim_dB (by omega) _ limbs32_small, valB_limbs32 N v h]
theorem limbs32_zero (N : Nat) : limbs32 N 0 = List.replicate N 0 := by
  unfold limbs32
  rw [List.eq_replicate_iff]
  refine ⟨by simp, fun x hx => ?_⟩
  rw [List.mem_map] at hx
  obtain ⟨q, _, rfl⟩ := hx
  rw [Nat.zero_div]; rfl
/-- The digits of 32 bits of a number of digits of 64 bits. -/
theorem dig32_lo {l : List UInt64} {j : Nat} {x : UInt64} (h : l[j]? = some x) : valL l / 4294967296 ^ (2 * j) % 4294967296 = x.toNat % 4294967296 := by
  have := valL_get h
  rw [show (4294967296 : Nat) ^ (2 * j) = 2 ^ (64 * j) by rw [show (4294967296 : Nat) = 2 ^ 32 from rfl, ← Nat.pow_mul]; congr 1; omega, ← this]
  omega
theorem dig32_hi {l : List UInt64} {j : Nat} {x : UInt64} (h : l[j]? = some x) : valL l / 4294967296 ^ (2 * j + 1) % 4294967296 = x.toNat / 4294967296 := by
  have := valL_get h
  rw [Nat.pow_succ, ← Nat.div_div_eq_div_mul, show (4294967296 : Nat) ^ (2 * j) = 2 ^ (64 * j) by rw [show (4294967296 : Nat) = 2 ^ 32 from rfl, ← Nat.pow_mul]; congr 1; omega, ← this]
  omega
theorem valL_lt32 (l : List UInt64) : valL l < 4294967296 ^ (2 * l.length) := by
  have := valL_lt l
  rwa [show (18446744073709551616 : Nat) = 4294967296 ^ 2 from rfl, ← Nat.pow_mul] at this
/-- What stands when i limbs are taken apart. -/
def half (N v i : Nat) : List UInt64 := (List.range N).map fun q => if q < i then UInt64.ofNat (v / 4294967296 ^ q % 4294967296) else 0
theorem half_zero (N v : Nat) : half N v 0 = List.replicate N 0 := by
  unfold half
  rw [List.eq_replicate_iff]
  refine ⟨by simp, fun x hx => ?_⟩
  rw [List.mem_map] at hx
  obtain ⟨q, _, rfl⟩ := hx
  rfl
theorem half_full (N v : Nat) : half N v N = limbs32 N v := by
  unfold half limbs32
  exact List.map_congr_left fun q hq => by rw [if_pos (by simpa using hq)]
theorem half_len (N v i : Nat) : (half N v i).length = N := by unfold half; simp
theorem half_step {N v i : Nat} (h : i < N) : half N v (i + 1) = (half N v i).set i (UInt64.ofNat (v / 4294967296 ^ i % 4294967296)) := by
  apply List.ext_getElem?
  intro q
  rw [List.getElem?_set]
  unfold half
  simp only [List.getElem?_map, List.length_map, List.length_range]
  by_cases hq : q < N
  · rw [List.getElem?_range hq]
    by_cases he : i = q
    · subst he; simp [h]
    · simp [he]
      have : q < i + 1 ↔ q < i := by omega
      simp [this]
  · rw [List.getElem?_eq_none (by simp; omega)]
    simp
    omega
theorem half_get {N v i : Nat} (h : i < N) : (half N v i)[i]? = some 0 := by unfold half; simp [h]
end Go.Proofs.Ytgkhhinjdojbhaa
namespace Go.Proofs.Ytgkhhinjdojbhaa
open Go.RowKit

/-- A row of digits. -/
def URow (w : World) (X : Nat) (l : List UInt64) : Prop := Row w X 58 l.length l.length (l.map fun x => .int .u64 (x.toNat : Int))
theorem URow.rd {w : World} {X : Nat} {l : List UInt64} (h : URow w X l) : RdC Try.eU w (some ⟨X, 0, none⟩) l.length l :=
  ⟨rfl, .inr ⟨X, 0, rfl, h.lt, fun j u hu => by
    rw [Nat.zero_add]
    refine h.get ?_
    rw [← hu]
    show _ = (List.flatMap Ucells _)[j]?
    rw [show List.flatMap Ucells l = l.map fun x => .int .u64 (x.toNat : Int) from flatU _]⟩⟩
theorem URow.new (w : World) (n : Nat) (hn : n ≤ 1000000) : URow (w.alloc (.cells (madeCells #[.int .u64 0] n) 58)) w.heap.size (List.replicate n 0) := by
  unfold URow
  rw [List.length_replicate, List.map_replicate]
  refine ⟨by simp, Nat.le_refl _, by unfold maxLen; omega, _, Blk.new _ _ _, by simp [size_madeCells], ?_⟩
  rw [madeCells_one]
  simp
theorem URow.set {w : World} {X : Nat} {l : List UInt64} (h : URow w X l) (q : Nat) (x : UInt64) : URow (w.setCell ⟨X, q, none⟩ (.int .u64 (x.toNat : Int))) X (l.set q x) := by
  have := Row.set_ h q (.int .u64 (x.toNat : Int))
  unfold URow
  rw [List.length_set, List.map_set]
  exact this
theorem URow.cell {w : World} {X : Nat} {l : List UInt64} (h : URow w X l) {q : Nat} {x : UInt64} (hx : l[q]? = some x) : w.cell? ⟨X, q, none⟩ = some (.int .u64 (x.toNat : Int)) :=
  Row.get h (by rw [List.getElem?_map, hx]; rfl)
theorem make_rnat (n : Nat) (hn : n ≤ 281474976710) (w : World) : (Instr.makeSlice 41 (.int .i64 (n : Int)) (.int .i64 (n : Int))).run Try.prog w = .ok (.slice (some ⟨w.heap.size, 0, none⟩) n n) (w.alloc (.cells (madeCells #[.int .u64 0] n) 58)) := by
  obtain ⟨i0, hi, hz0, hz1, hz2⟩ := info_parts (show (Try.prog.info? 58).map (fun i => (i.zero, i.size, i.bytes)) = some (some (.int .u64 0), 1, 8) by kernel_rfl)
  have hr := run_make (P := Try.prog) w 41 58 i0 (.int .u64 0) Try.underlying41 hi hz0 .i64 .i64 n n (by omega) (by omega) (by rw [hz2]; omega) (by omega)
  simp only [Int.toNat_natCast, hz1, Nat.mul_one] at hr
  exact hr
/-- What is the number n, as the reference has numbers. -/
def RN (w : World) (base : Nat) (A : Option Addr) (m : Nat) (n : Nat) : Prop := RdC Try.eU w A m (dB 4294967296 n) ∧ (∀ a, A = some a → base ≤ a.block) ∧ (A = none → m = 0)
theorem RN.below {w w' : World} {base : Nat} {A : Option Addr} {m n : Nat} (h : RN w base A m n) (hb : Below w.heap.size w w') : RN w' base A m n := ⟨h.1.below hb, h.2⟩
theorem RN.mono {w : World} {base base' : Nat} {A : Option Addr} {m n : Nat} (h : RN w base A m n) (hb : base' ≤ base) : RN w base' A m n := ⟨h.1, fun a ha => Nat.le_trans hb (h.2.1 a ha), h.2.2⟩
set_option maxRecDepth 100000 in
set_option maxHeartbeats 2000000 in
theorem rtrim_any (A : Option Addr) (m c : Nat) (l : List UInt64) (w : World) (h : RdC Try.eU w A m l) (hc : m ≤ c ∧ c ≤ maxLen) (hnil : A = none → c = 0) :
    Calls Try.prog 43 #[.slice A m c] w fun e w' => e = .returned (.slice A (trimL l).length (trimL l).length) ∧ w = w' := by
  have hml := h.1
  have hm63 : (m : Int) ≤ 9223372036854775807 := by unfold maxLen at hc; omega
  have hci : (m : Int) ≤ c := by omega
  have hA0 : A = none → c = 0 := hnil
  have HR := Lib.hid h
  clear h
  go_enter Try.func43, Try.ntmps43
  go_wp2_with fail
  go_loop [3] (fun kk => ∃ n : Nat, n ≤ m ∧ kk = .int .i64 (n : Int) ∧ trimL (l.take n) = trimL l) (fun kk => (intOf kk).toNat)
  case atStart => exact ⟨m, by omega, rfl, by rw [List.take_of_length_le (by omega)]⟩
  case round =>
    obtain ⟨n, hn, rfl, ht⟩ := hrel
    have hn0 : ¬ ((n : Int) < 0) := by omega
    have hnm : (n : Int) ≤ m := by omega
    have hnc : (n : Int) ≤ c := by omega
    have hnn : (n : Int).toNat = n := by omega
    have hn63 : (n : Int) ≤ 9223372036854775807 := by omega
    by_cases h0 : 0 < n
    · have h0i : (0 : Int) < n := by omega
      have h0d : decide ((0 : Int) < (n : Int)) = true := decide_eq_true h0i
      obtain ⟨x, hx⟩ : ∃ x, l[n - 1]? = some x := ⟨_, List.getElem?_eq_getElem (by omega)⟩
      obtain ⟨g, off, hAe, cx⟩ := limb_at HR.out hx
      subst hAe
      have hk1 : ¬ ((n : Int) - 1 < 0) := by omega
      have hk2 : (n : Int) - 1 < m := by omega
      have hk3 : ((n : Int) - 1).toNat = n - 1 := by omega
      have htk : l.take n = l.take (n - 1) ++ [x] := by rw [show l.take n = l.take (n - 1 + 1) by rw [Nat.sub_add_cancel h0], List.take_add_one, hx]; rfl
      rw [htk] at ht
      by_cases hx0 : x = 0
      · have i0 : (x.toNat : Int) = 0 := (u64_zero x).1 hx0
        rw [i0] at cx
        rw [hx0, trimL_snoc_zero] at ht
        have HT := Lib.hid ht
        clear ht htk hx hx0 i0
        go_wp2_with fail
        go_round
        case measure => simp [intOf]; omega
        exact ⟨n - 1, by omega, by first | rfl | (congr 1; omega), HT.out⟩
      · have i0 : ¬ ((x.toNat : Int) = 0) := fun e => hx0 ((u64_zero x).2 e)
        have i0d : decide ((x.toNat : Int) = 0) = false := decide_eq_false i0
        rw [trimL_snoc hx0, ← htk] at ht
        have hl : (trimL l).length = n := by rw [← ht, List.length_take]; omega
        have HT := Lib.hid hl
        clear ht htk hx hx0 hl
        go_wp2_with fail
        go_ret
        exact ⟨by rw [HT.out]; first | rfl | simp [addr_addz], rfl⟩
    · obtain rfl : n = 0 := by omega
      have hl : (trimL l).length = 0 := by rw [← ht]; rfl
      have HT := Lib.hid hl
      clear ht hl
      cases A with
      | none =>
        obtain rfl := hA0 rfl
        go_wp2_with fail
        go_ret
        exact ⟨by rw [HT.out]; first | rfl | simp, rfl⟩
      | some ad =>
        go_wp2_with fail
        go_ret
        exact ⟨by rw [HT.out]; first | rfl | simp [addr_addz], rfl⟩
set_option maxRecDepth 100000 in
set_option maxHeartbeats 2000000 in
theorem rfrom_any (A : Option Addr) (m c : Nat) (l : List UInt64) (w : World) (h : RdC Try.eU w A m l) (hm : m ≤ 1000) :
    Calls Try.prog 19 #[.slice A m c] w fun e w' => ∃ A1 n1, e = .returned (.slice A1 n1 n1) ∧ RN w' w.heap.size A1 n1 (valL l) ∧ Below w.heap.size w w' := by
  obtain ⟨X, hX⟩ : ∃ X, w.heap.size = X := ⟨_, rfl⟩
  obtain ⟨v, hv⟩ : ∃ v, valL l = v := ⟨_, rfl⟩
  have hml := h.1
  obtain ⟨N, hN⟩ : ∃ N, 2 * m = N := ⟨_, rfl⟩
  have hNi : 2 * (m : Int) = N := by omega
  have hmk := make_rnat N (by omega) w
  obtain ⟨w1, hw1⟩ : ∃ w1, w.alloc (.cells (madeCells #[.int .u64 0] N) 58) = w1 := ⟨_, rfl⟩
  have hb1 : Below w.heap.size w w1 := by rw [← hw1]; exact (Below.refl _ _).alloc (Nat.le_refl _) _
  have hR1 : URow w1 X (half N v 0) := by rw [half_zero, ← hw1, ← hX]; exact URow.new w N (by omega)
  rw [hw1, hX] at hmk
  have hvl : v < 4294967296 ^ N := by rw [← hv, ← hN, ← hml]; exact valL_lt32 l
  have hlo : ∀ (j : Nat) x, l[j]? = some x → v / 4294967296 ^ (2 * j) % 4294967296 = x.toNat % 4294967296 := fun j x hx => by rw [← hv]; exact dig32_lo hx
  have hhi : ∀ (j : Nat) x, l[j]? = some x → v / 4294967296 ^ (2 * j + 1) % 4294967296 = x.toNat / 4294967296 := fun j x hx => by rw [← hv]; exact dig32_hi hx
  have H1 := Lib.hid (And.intro h (And.intro hR1 (And.intro hb1 (And.intro hX (And.intro hml (And.intro hN (And.intro hlo (And.intro hhi hvl))))))))
  rw [hv]
  clear h hR1 hb1 hml hN hv hlo hhi hvl
  go_enter Try.func19, Try.ntmps19
  go_wp2_with fail
  try rw [hw1]
  try rw [hX]
  clear hmk hw1 hX
  go_loopw [4] (fun kk wr => ∃ i : Nat, i ≤ m ∧ kk = .int .i64 (i : Int) ∧ URow wr X (half N v (2 * i)) ∧ Turn [X] w1 wr) (fun kk _ => m - (intOf kk).toNat)
  case atStart => exact ⟨0, by omega, rfl, H1.out.2.1, Turn.refl _ _⟩
  case round =>
    obtain ⟨i, hi, rfl, hR, hT⟩ := hrel
    obtain ⟨hA, _, hb1, hX, hml, hN, hlo, hhi, hvl⟩ := H1.out
    have hbw : Below X w wr := by have := below_turn hb1 hT (fun t ht => by simp at ht; omega) hb1.size; rwa [hX] at this
    have hRb : RdC Try.eU wr A m l := hA.below (by rw [hX]; exact hbw)
    by_cases hlt : i < m
    · have hlti : (i : Int) < m := by omega
      have hltd : decide ((i : Int) < (m : Int)) = true := decide_eq_true hlti
      have hi0 : ¬ ((i : Int) < 0) := by omega
      have hi2 : 2 * (i : Int) = ((2 * i : Nat) : Int) := by omega
      obtain ⟨x, hx⟩ : ∃ x, l[i]? = some x := ⟨_, List.getElem?_eq_getElem (by omega)⟩
      obtain ⟨g, off, hAe, cx⟩ := limb_at hRb hx
      have hne : g ≠ X := by
        obtain ⟨_, h2⟩ := hA
        rcases h2 with h2 | ⟨g', off', e, hg, _⟩
        · omega
        · rw [hAe] at e; injection e with e; injection e with e _ _; omega
      subst hAe
      have hx1 := hlo i x hx
      have hx2 := hhi i x hx
      have s1 := half_step (N := N) (v := v) (i := 2 * i) (by omega)
      have s2 := half_step (N := N) (v := v) (i := 2 * i + 1) (by omega)
      rw [hx1] at s1
      rw [hx2] at s2
      have fr := Row.frozen hR (2 * i)
      have cp := hR.cell (q := 2 * i) (half_get (by omega))
      have hR2 := hR.set (2 * i) (UInt64.ofNat (x.toNat % 4294967296))
      rw [← s1] at hR2
      have hR3 := hR2.set (2 * i + 1) (UInt64.ofNat (x.toNat / 4294967296))
      rw [← s2] at hR3
      have hxl := x.toNat_lt
      have e1 : ((UInt64.ofNat (x.toNat % 4294967296)).toNat : Int) = (x.toNat : Int) % 4294967296 := by rw [UInt64.toNat_ofNat']; omega
      have e2 : ((UInt64.ofNat (x.toNat / 4294967296)).toNat : Int) = (x.toNat : Int) / 4294967296 := by rw [UInt64.toNat_ofNat']; omega
      rw [e1] at hR2 hR3
      rw [e2] at hR3
      have fr2 := Row.frozen hR2 (2 * i + 1)
      have cp2 := hR2.cell (q := 2 * i + 1) (half_get (by omega))
      rw [show (((0 : UInt64).toNat : Nat) : Int) = 0 from rfl] at cp cp2
      obtain ⟨xn, hxn⟩ : ∃ xn : Nat, x.toNat = xn := ⟨_, rfl⟩
      rw [hxn] at cx hxl hR2 hR3 fr2 cp2
      obtain ⟨p, hp⟩ : ∃ p, 2 * i = p := ⟨_, rfl⟩
      rw [hp] at fr fr2 hR2 hR3 cp cp2
      have cx2 := cell_turn cx ((Turn.refl [X] wr).setCell (p := ⟨X, p, none⟩) (.inl (by simp)) (.int .u64 ((xn : Int) % 4294967296))) (by simpa using hne)
      have hpi : 2 * (i : Int) = p := by omega
      have hp0 : ¬ ((p : Int) < 0) := by omega
      have hpN : (p : Int) < N := by omega
      have hp10 : ¬ ((p : Int) + 1 < 0) := by omega
      have hp1N : (p : Int) + 1 < N := by omega
      have hp1t : ((p : Int) + 1).toNat = p + 1 := by omega
      have hpb : (p : Int) ≤ 2000 := by omega
      have HS := Lib.hid (And.intro hR3 (And.intro hT (And.intro hp hi)))
      have hNb : (N : Int) ≤ 2000 := by omega
      clear hR hRb hbw hx hx1 hx2 s1 s2 e1 e2 hxn hR3 hT hp hA hb1 hX hml hN hlo hhi hvl hi2 hne hi hNi hR2
      go_wp2_with fail
      go_roundw
      case measure => simp [intOf]; omega
      refine ⟨i + 1, by omega, by simp, ?_, (HS.out.2.1.setCell (.inl (by simp)) _).setCell (.inl (by simp)) _⟩
      rw [show 2 * (i + 1) = p + 1 + 1 by have := HS.out.2.2.1; omega]
      exact HS.out.1
    · obtain rfl : i = m := by omega
      have hlti : ¬ (i : Int) < i := by omega
      have hltd : decide ((i : Int) < (i : Int)) = false := decide_eq_false hlti
      rw [hN, half_full] at hR
      have hrd := hR.rd
      rw [limbs32_len] at hrd
      have ht := rtrim_any (some ⟨X, 0, none⟩) N N _ wr hrd ⟨Nat.le_refl _, by unfold maxLen; omega⟩ (fun h => by cases h)
      obtain ⟨hle, hte⟩ := trimL_take (limbs32 N v)
      have hrd2 := hrd.take (trimL (limbs32 N v)).length (by rw [limbs32_len] at hle; exact hle)
      rw [← hte] at hrd2
      rw [trim_limbs32 hvl] at ht hrd2
      have HS := Lib.hid (And.intro hrd2 (And.intro hbw hX))
      clear hR hT hbw hRb hrd hrd2 hle hte hA hb1 hX hml hN hlo hhi hvl hNi
      go_wp2_with fail
      refine ht.mono ?_
      rintro e w9 ⟨rfl, rfl⟩
      go_wp2_with fail
      go_ret
      have hX := HS.out.2.2
      exact ⟨_, _, rfl, ⟨HS.out.1, fun a ha => by injection ha with ha; subst ha; simp; omega, fun h => by cases h⟩, by rw [hX]; exact HS.out.2.1⟩
end Go.Proofs.Ytgkhhinjdojbhaa
namespace Go.Proofs.Ytgkhhinjdojbhaa
open Go.RowKit

abbrev b32 : Nat := 4294967296
abbrev b64 : Nat := 18446744073709551616
/-- A digit of 64 bits out of two of 32. -/
theorem dig64 {n j : Nat} : (dB 18446744073709551616 n)[j]? = if n / 4294967296 ^ (2 * j) = 0 then none else some (UInt64.ofNat (n / 4294967296 ^ (2 * j) % 4294967296 + n / 4294967296 ^ (2 * j + 1) % 4294967296 * 4294967296)) := by
  rw [dB_get (by omega), show (18446744073709551616 : Nat) ^ j = 4294967296 ^ (2 * j) by rw [show (18446744073709551616 : Nat) = 4294967296 ^ 2 from rfl, ← Nat.pow_mul], Nat.pow_succ, ← Nat.div_div_eq_div_mul]
  obtain ⟨V, hV⟩ : ∃ V, n / 4294967296 ^ (2 * j) = V := ⟨_, rfl⟩
  rw [hV]
  have : V % 18446744073709551616 = V % 4294967296 + V / 4294967296 % 4294967296 * 4294967296 := by omega
  rw [this]
theorem dig32 {n j : Nat} : (dB 4294967296 n)[j]? = if n / 4294967296 ^ j = 0 then none else some (UInt64.ofNat (n / 4294967296 ^ j % 4294967296)) := dB_get (by omega) j n
theorem rof_any (x : UInt64) (w : World) :
    Calls Try.prog 29 #[.int .u64 (x.toNat : Int)] w fun e w' => ∃ A1 n1, e = .returned (.slice A1 n1 n1) ∧ RN w' w.heap.size A1 n1 x.toNat ∧ Below w.heap.size w w' := by
  obtain ⟨w1, hw1⟩ : ∃ w1, w.alloc (.cells #[.int .u64 (x.toNat : Int)] 58) = w1 := ⟨_, rfl⟩
  have hb : Blk w1 w.heap.size 58 #[.int .u64 (x.toNat : Int)] := by rw [← hw1]; exact Blk.new _ _ _
  have hb1 : Below w.heap.size w w1 := by rw [← hw1]; exact (Below.refl _ _).alloc (Nat.le_refl _) _
  have hr : RdC Try.eU w1 (some ⟨w.heap.size, 0, none⟩) 1 [x] := hb.rdC Try.eU rfl
  have hm := rfrom_any (some ⟨w.heap.size, 0, none⟩) 1 1 [x] w1 hr (by omega)
  have H1 := Lib.hid hb1
  clear hb hb1 hr
  go_enter Try.func29, Try.ntmps29
  go_wp2_with fail
  try rw [hw1]
  refine hm.mono ?_
  rintro e w2 ⟨A1, n1, rfl, hN, hb2⟩
  have H2 := Lib.hid (And.intro hN hb2)
  clear hN hb2 hm hw1
  go_wp2_with fail
  go_ret
  have hv : valL [x] = x.toNat := by simp [valL]
  have h2 := H2.out.1
  rw [hv] at h2
  exact ⟨_, _, rfl, h2.mono H1.out.size, H1.out.trans (H2.out.2.mono H1.out.size)⟩
set_option maxRecDepth 100000 in
set_option maxHeartbeats 2000000 in
theorem rto_any (A : Option Addr) (m c : Nat) (n : Nat) (w : World) (h : RdC Try.eU w A m (dB 4294967296 n)) (hm : m ≤ 1000) :
    Calls Try.prog 33 #[.slice A m c] w fun e w' => ∃ A1 n1 c1, e = .returned (.slice A1 n1 c1) ∧ OwnE Try.eU w' w.heap.size (.slice A1 n1 c1) (dB 18446744073709551616 n) ∧ Below w.heap.size w w' := by
  have hml := h.1
  have hL := h.1
  have HA := Lib.hid h
  have hgt : ∀ j : Nat, j < m ↔ n / 4294967296 ^ j ≠ 0 := fun j => by rw [← hL]; exact dB_lt (by omega)
  have HG := Lib.hid hgt
  have hwm : ∃ X, w.heap.size = X := ⟨_, rfl⟩
  clear h hml hL hgt hwm
  go_enter Try.func33, Try.ntmps33
  go_wp2_with fail
  go_loopw [3, 4] (fun ll kk wr => ∃ (j p : Nat) (A1 : Option Addr) (n1 c1 : Nat), 2 * j = p ∧ p ≤ m + 1 ∧ kk = .int .i64 (p : Int) ∧ ll = .slice A1 n1 c1 ∧ OwnE Try.eU wr w.heap.size (.slice A1 n1 c1) ((dB 18446744073709551616 n).take j) ∧ Below w.heap.size w wr) (fun _ kk _ => m + 1 - (intOf kk).toNat)
  case atStart => exact ⟨0, 0, none, 0, 0, rfl, by omega, rfl, rfl, OwnE.nil _ _, Below.refl _ _⟩
  case round =>
    obtain ⟨j, p, A1, n1, c1, hp, hpm, rfl, rfl, hO, hb⟩ := hrel
    have hp0 : ¬ ((p : Int) < 0) := by omega
    have hpb : (p : Int) ≤ 100000 := by omega
    have hRb : RdC Try.eU wr A m (dB 4294967296 n) := HA.out.below hb
    have HO := Lib.hid (And.intro hO (And.intro hb hp))
    clear hO hb
    by_cases hlt : p < m
    · have hlti : (p : Int) < m := by omega
      have hltd : decide ((p : Int) < (m : Int)) = true := decide_eq_true hlti
      have hV := (HG.out p).1 hlt
      have d0 := dig32 (n := n) (j := p)
      rw [if_neg hV] at d0
      obtain ⟨lo, hlo⟩ : ∃ lo, n / 4294967296 ^ p % 4294967296 = lo := ⟨_, rfl⟩
      have hlo2 : lo < 4294967296 := by rw [← hlo]; exact Nat.mod_lt _ (by omega)
      rw [hlo] at d0
      obtain ⟨g, off, hAe, c0⟩ := limb_at hRb d0
      rw [UInt64.toNat_ofNat', Nat.mod_eq_of_lt (show lo < 2 ^ 64 by omega)] at c0
      have D := dig64 (n := n) (j := j)
      rw [hp, if_neg hV, hlo] at D
      obtain ⟨hi, hhi⟩ : ∃ hi, n / 4294967296 ^ (p + 1) % 4294967296 = hi := ⟨_, rfl⟩
      have hhi2 : hi < 4294967296 := by rw [← hhi]; exact Nat.mod_lt _ (by omega)
      rw [hhi] at D
      obtain ⟨x, hx⟩ : ∃ x, UInt64.ofNat (lo + hi * 4294967296) = x := ⟨_, rfl⟩
      have hxn : x.toNat = lo + hi * 4294967296 := by rw [← hx, UInt64.toNat_ofNat', Nat.mod_eq_of_lt (by omega)]
      rw [hx] at D
      have htk : (dB 18446744073709551616 n).take (j + 1) = (dB 18446744073709551616 n).take j ++ [x] := by rw [List.take_add_one, D]; rfl
      have hjl : ((dB 18446744073709551616 n).take j).length ≤ 1000 := by rw [List.length_take]; omega
      have hp10 : ¬ ((p : Int) + 1 < 0) := by omega
      have hp1t : ((p : Int) + 1).toNat = p + 1 := by omega
      subst hAe
      by_cases hlt2 : p + 1 < m
      · have hlti2 : (p : Int) + 1 < m := by omega
        have hltd2 : decide ((p : Int) + 1 < (m : Int)) = true := decide_eq_true hlti2
        have d1 := dig32 (n := n) (j := p + 1)
        rw [if_neg ((HG.out (p + 1)).1 hlt2), hhi] at d1
        obtain ⟨g', off', hAe', c1'⟩ := limb_at hRb d1
        rw [UInt64.toNat_ofNat', Nat.mod_eq_of_lt (show hi < 2 ^ 64 by omega)] at c1'
        injection hAe' with hAe'
        injection hAe' with e1 e2 e3
        subst e1 e2
        have w1 : IntKind.u64.wrap ((hi : Int) * 4294967296) = (hi : Int) * 4294967296 := IntWalk.u64_in _ (by omega)
        have w2 : (lo : Int) + (hi : Int) * 4294967296 = (x.toNat : Int) := by omega
        have w3 : IntKind.u64.wrap (x.toNat : Int) = (x.toNat : Int) := IntWalk.u64_in _ (by have := x.toNat_lt; omega)
        have HX := Lib.hid (And.intro htk (And.intro hjl (And.intro hpm (And.intro hp hlt))))
        clear htk hjl D d0 d1 hx hxn hlo hhi hV hRb hpm hp hlo2 hhi2 e3
        go_wp2_with (at_builtin; go_loud (refine wp_appE Try.eU (.tmp 29) (.tmp 31) w.heap.size (.slice A1 n1 c1) _ (HO.out.1.below ((Below.refl _ _).alloc (Nat.le_refl _) _)) (by have := HO.out.2.1.size; simp; omega) (some ⟨wr.heap.size, 0, none⟩) 1 1 [x] (Blk.rdC Try.eU (Blk.new _ _ _) rfl) (fun h => by cases h) (by have := HX.out.2.1; simp only [List.length_singleton]; omega) rfl rfl rfl rfl ?_; intro A6 n6 c6 w6 hG; have H6 := Lib.hid hG; clear hG))
        go_roundw
        case measure => simp [intOf]; omega
        obtain ⟨htk, hjl, hpm, hp, hlt⟩ := HX.out
        refine ⟨j + 1, p + 2, A6, n6, c6, by omega, by omega, by simp, rfl, by rw [htk]; exact H6.out.own, HO.out.2.1.trans (((Below.refl w.heap.size wr).alloc HO.out.2.1.size _).trans H6.out.below)⟩
      · have hlti2 : ¬ (p : Int) + 1 < m := by omega
        have hltd2 : decide ((p : Int) + 1 < (m : Int)) = false := decide_eq_false hlti2
        have hz : hi = 0 := by
          have h9 : ¬ (n / 4294967296 ^ (p + 1) ≠ 0) := fun h => hlt2 ((HG.out (p + 1)).2 h)
          rw [← hhi]; omega
        have w2 : (lo : Int) = (x.toNat : Int) := by omega
        rw [w2] at c0
        have HX := Lib.hid (And.intro htk (And.intro hjl (And.intro hpm (And.intro hp hlt))))
        clear htk hjl D d0 hx hxn hlo hhi hV hRb hpm hp hlo2 hhi2 w2 hz
        go_wp2_with (at_builtin; go_loud (refine wp_appE Try.eU (.tmp 29) (.tmp 31) w.heap.size (.slice A1 n1 c1) _ (HO.out.1.below ((Below.refl _ _).alloc (Nat.le_refl _) _)) (by have := HO.out.2.1.size; simp; omega) (some ⟨wr.heap.size, 0, none⟩) 1 1 [x] (Blk.rdC Try.eU (Blk.new _ _ _) rfl) (fun h => by cases h) (by have := HX.out.2.1; simp only [List.length_singleton]; omega) rfl rfl rfl rfl ?_; intro A6 n6 c6 w6 hG; have H6 := Lib.hid hG; clear hG))
        go_roundw
        case measure => simp [intOf]; omega
        obtain ⟨htk, hjl, hpm, hp, hlt⟩ := HX.out
        refine ⟨j + 1, p + 2, A6, n6, c6, by omega, by omega, by simp, rfl, by rw [htk]; exact H6.out.own, HO.out.2.1.trans (((Below.refl w.heap.size wr).alloc HO.out.2.1.size _).trans H6.out.below)⟩
    · have hlti : ¬ (p : Int) < m := by omega
      have hltd : decide ((p : Int) < (m : Int)) = false := decide_eq_false hlti
      have hall : (dB 18446744073709551616 n).take j = dB 18446744073709551616 n := by
        refine List.take_of_length_le ?_
        rcases Nat.lt_or_ge j (dB 18446744073709551616 n).length with h1 | h1
        · have h2 := (dB_lt (b := 18446744073709551616) (by omega)).1 h1
          rw [show (18446744073709551616 : Nat) ^ j = 4294967296 ^ (2 * j) by rw [show (18446744073709551616 : Nat) = 4294967296 ^ 2 from rfl, ← Nat.pow_mul], hp] at h2
          exact absurd ((HG.out p).2 h2) hlt
        · exact h1
      have HX := Lib.hid hall
      clear hall hRb
      go_wp2_with fail
      go_ret
      have h1 := HO.out.1
      rw [HX.out] at h1
      exact ⟨_, _, _, rfl, h1, HO.out.2.1⟩
set_option maxRecDepth 100000 in
set_option maxHeartbeats 2000000 in
theorem ris_any (A : Option Addr) (m c : Nat) (B : Option Addr) (k q : Nat) (n : Nat) (w : World) (h : RdC Try.eU w A m (dB 18446744073709551616 n)) (h2 : RdC Try.eU w B k (dB 4294967296 n)) (hm : m ≤ 1000) (hk : k ≤ 1000) :
    Calls Try.prog 28 #[.slice A m c, .slice B k q] w fun e w' => e = .returned (.bool true) ∧ Below w.heap.size w w' := by
  have hto := rto_any B k q n w h2 (by omega)
  have HA := Lib.hid h
  clear h h2
  go_enter Try.func28, Try.ntmps28
  go_wp2_with fail
  refine hto.mono ?_
  rintro e w1 ⟨A1, n1, c1, rfl, hO, hb⟩
  have hn1 : n1 = m := by have := HA.out.1; have := hO.len; omega
  subst hn1
  have hm63 : (n1 : Int) ≤ 100000 := by have := HA.out.1; omega
  have HO := Lib.hid (And.intro hO.rd (And.intro hb (HA.out.below hb)))
  clear hO hb hto
  go_wp2_with fail
  go_loopw [6] (fun kk wr => ∃ j : Nat, j ≤ n1 ∧ kk = .int .i64 (j : Int) ∧ Below w.heap.size w wr ∧ Old w1 wr) (fun kk _ => n1 - (intOf kk).toNat)
  case atStart => exact ⟨0, by omega, rfl, HO.out.2.1, Old.refl _⟩
  case round =>
    obtain ⟨j, hj, rfl, hb, ho⟩ := hrel
    have hj0 : ¬ ((j : Int) < 0) := by omega
    have HB := Lib.hid (And.intro hb ho)
    have hr1 := HO.out.1.below ho
    have hr2 := HO.out.2.2.below ho
    clear hb ho
    by_cases hlt : j < n1
    · have hlti : (j : Int) < n1 := by omega
      have hltd : decide ((j : Int) < (n1 : Int)) = true := decide_eq_true hlti
      obtain ⟨x, hx⟩ : ∃ x, (dB 18446744073709551616 n)[j]? = some x := ⟨_, List.getElem?_eq_getElem (by have := HA.out.1; omega)⟩
      obtain ⟨g1, o1, e1, c1'⟩ := limb_at hr1 hx
      obtain ⟨g2, o2, e2, c2'⟩ := limb_at hr2 hx
      subst e1 e2
      clear hr1 hr2 hx
      go_wp2_with fail
      go_quiet (fail)
      have ho0 : Old wr (wr.drewN nq) := (Old.refl wr).drewN nq
      generalize wr.drewN nq = w0 at *
      go_wp2_with fail
      go_roundw
      case measure => simp [intOf]; omega
      exact ⟨j + 1, by omega, by simp, HB.out.1.trans (ho0.mono HB.out.1.size), Old.trans HB.out.2 ho0⟩
    · have hlti : ¬ (j : Int) < n1 := by omega
      have hltd : decide ((j : Int) < (n1 : Int)) = false := decide_eq_false hlti
      clear hr1 hr2
      go_wp2_with fail
      go_ret
      exact ⟨rfl, HB.out.1⟩
end Go.Proofs.Ytgkhhinjdojbhaa
namespace Go.Proofs.Ytgkhhinjdojbhaa
open Go.RowKit

theorem bl_half {t : Nat} (h : t ≠ 0) : bl t = bl (t / 2) + 1 := by
  by_cases h2 : 2 ≤ t
  · have := bl_shift 1 (n := t) (by omega)
    rw [this, show (2 : Nat) ^ 1 = 2 from rfl]; omega
  · obtain rfl : t = 1 := by omega
    rfl
theorem bl_lt32 {t : Nat} (h : t < 4294967296) : bl t ≤ 32 := bl_le (by omega)
/-- The number of bits by the highest digit. -/
theorem bl_top {n m t : Nat} (hm : (dB 4294967296 n).length = m + 1) (ht : (dB 4294967296 n)[m]? = some (UInt64.ofNat t)) (htl : t < 4294967296) : t ≠ 0 ∧ bl n = 32 * m + bl t := by
  have h1 := (dB_lt (b := 4294967296) (n := n) (j := m) (by omega)).1 (by omega)
  have h2 : ¬ (n / 4294967296 ^ (m + 1) ≠ 0) := fun h => by have := (dB_lt (b := 4294967296) (n := n) (j := m + 1) (by omega)).2 h; omega
  rw [dig32, if_neg h1] at ht
  injection ht with ht
  obtain ⟨V, hV⟩ : ∃ V, n / 4294967296 ^ m = V := ⟨_, rfl⟩
  rw [Nat.pow_succ, ← Nat.div_div_eq_div_mul, hV] at h2
  rw [hV] at h1 ht
  have h3 : V < 4294967296 := by omega
  have h5 : V = t := by
    have h6 := congrArg UInt64.toNat ht
    rw [UInt64.toNat_ofNat', UInt64.toNat_ofNat'] at h6
    omega
  rw [h5] at hV h1
  have h5 := hV
  refine ⟨by omega, ?_⟩
  rw [← h5, show (4294967296 : Nat) ^ m = 2 ^ (32 * m) by rw [show (4294967296 : Nat) = 2 ^ 32 from rfl, ← Nat.pow_mul]]
  refine bl_shift (32 * m) ?_
  rw [show (2 : Nat) ^ (32 * m) = 4294967296 ^ m by rw [show (4294967296 : Nat) = 2 ^ 32 from rfl, ← Nat.pow_mul]]
  rcases Nat.lt_or_ge n (4294967296 ^ m) with h7 | h7
  · rw [Nat.div_eq_of_lt h7] at h5; exact absurd h5 (by omega)
  · exact h7
theorem byte32 {n q r : Nat} (hr : r < 4) {x : UInt64} (h : (dB 4294967296 n)[q]? = some x) : byteAt n (4 * q + r) = UInt8.ofNat (x.toNat / 2 ^ (8 * r) % 256) := by
  rw [dig32] at h
  split at h
  · cases h
  · injection h with h
    unfold byteAt
    have e1 : (256 : Nat) ^ (4 * q + r) = 4294967296 ^ q * 2 ^ (8 * r) := by
      rw [Nat.pow_add, Nat.pow_mul, show (256 : Nat) ^ 4 = 4294967296 from rfl, show (256 : Nat) = 2 ^ 8 from rfl, ← Nat.pow_mul]
    rw [e1, ← Nat.div_div_eq_div_mul, ← h, UInt64.toNat_ofNat']
    obtain ⟨V, hV⟩ : ∃ V, n / 4294967296 ^ q = V := ⟨_, rfl⟩
    rw [hV]
    congr 1
    rw [Nat.mod_eq_of_lt (show V % 4294967296 < 2 ^ 64 by omega)]
    have e : (4294967296 : Nat) = 2 ^ (8 * r) * (2 ^ (32 - 8 * r)) := by rw [← Nat.pow_add, show 8 * r + (32 - 8 * r) = 32 by omega]
    rw [show V % 4294967296 / 2 ^ (8 * r) = V / 2 ^ (8 * r) % 2 ^ (32 - 8 * r) by rw [e, Nat.mod_mul_right_div_self]]
    rw [Nat.mod_mod_of_dvd]
    exact Nat.pow_dvd_pow 2 (show 8 ≤ 32 - 8 * r by omega)
theorem byte32_none {n k : Nat} (h : (dB 4294967296 n).length ≤ k / 4) : byteAt n k = 0 := by
  unfold byteAt
  have h2 : ¬ (n / 4294967296 ^ (k / 4) ≠ 0) := fun h' => by have := (dB_lt (b := 4294967296) (n := n) (by omega)).2 h'; omega
  rw [show (256 : Nat) ^ k = 4294967296 ^ (k / 4) * 256 ^ (k % 4) by rw [show (4294967296 : Nat) = 256 ^ 4 from rfl, ← Nat.pow_mul, ← Nat.pow_add]; congr 1; omega, ← Nat.div_div_eq_div_mul]
  rw [show n / 4294967296 ^ (k / 4) = 0 by omega, Nat.zero_div]; rfl
/-- What stands when i bytes are written, from the end on. -/
def rowR (n v i : Nat) : List UInt8 := (List.range n).map fun j => if n - 1 - j < i then byteAt v (n - 1 - j) else 0
theorem rowR_zero (n v : Nat) : rowR n v 0 = zs n := by
  unfold rowR zs
  rw [List.eq_replicate_iff]
  refine ⟨by simp, fun x hx => ?_⟩
  rw [List.mem_map] at hx
  obtain ⟨q, _, rfl⟩ := hx
  rw [if_neg (by omega)]
theorem rowR_len (n v i : Nat) : (rowR n v i).length = n := by unfold rowR; simp
theorem rowR_step {n v i : Nat} (h : i < n) : rowR n v (i + 1) = (rowR n v i).set (n - 1 - i) (byteAt v i) := by
  apply List.ext_getElem?
  intro q
  rw [List.getElem?_set]
  unfold rowR
  simp only [List.getElem?_map, List.length_map, List.length_range]
  by_cases hq : q < n
  · rw [List.getElem?_range hq]
    by_cases he : n - 1 - i = q
    · subst he
      have : n - 1 - (n - 1 - i) = i := by omega
      simp [this]
      omega
    · simp only [he, if_false, Option.map_some]
      have : n - 1 - q < i + 1 ↔ n - 1 - q < i := by omega
      simp [this]
  · rw [List.getElem?_eq_none (by simp; omega)]
    simp
    omega
theorem rowR_full {n v i : Nat} (h : ∀ k, i ≤ k → k < n → byteAt v k = 0) : rowR n v i = beN n v := by
  unfold rowR beN
  refine List.map_congr_left fun q hq => ?_
  rw [List.mem_range] at hq
  split
  · rfl
  · exact (h _ (by omega) (by omega)).symm
set_option maxRecDepth 100000 in
set_option maxHeartbeats 2000000 in
theorem rbits_any (A : Option Addr) (m c : Nat) (n : Nat) (w : World) (h : RdC Try.eU w A m (dB 4294967296 n)) (hm : m ≤ 1000) :
    Calls Try.prog 34 #[.slice A m c] w fun e w' => e = .returned (.int .i64 (bl n : Nat)) ∧ w = w' := by
  have hml := h.1
  have HA := Lib.hid h
  clear h
  rcases Nat.eq_zero_or_pos m with h0 | h0
  · subst h0
    have hz : n = 0 := by
      rcases Nat.eq_zero_or_pos n with h1 | h1
      · exact h1
      · rw [dB_pos (by omega) (by omega)] at hml; cases hml
    subst hz
    clear hml
    go_enter Try.func34, Try.ntmps34
    go_wp2_with fail
    go_ret
    exact ⟨rfl, rfl⟩
  · obtain ⟨k, rfl⟩ : ∃ k, m = k + 1 := ⟨m - 1, by omega⟩
    have hV := (dB_lt (b := 4294967296) (n := n) (j := k) (by omega)).1 (by omega)
    have d := dig32 (n := n) (j := k)
    rw [if_neg hV] at d
    obtain ⟨t, ht⟩ : ∃ t, n / 4294967296 ^ k % 4294967296 = t := ⟨_, rfl⟩
    have htl : t < 4294967296 := by rw [← ht]; exact Nat.mod_lt _ (by omega)
    rw [ht] at d
    obtain ⟨htz, hbl⟩ := bl_top hml d htl
    obtain ⟨g, off, hAe, ct⟩ := limb_at HA.out d
    rw [UInt64.toNat_ofNat', Nat.mod_eq_of_lt (show t < 2 ^ 64 by omega)] at ct
    subst hAe
    rw [hbl]
    have hk0 : ¬ ((k : Int) < 0) := by omega
    have hkk : (k : Int) < (k : Int) + 1 := by omega
    have hk1 : ¬ ((k : Int) + 1 = 0) := by omega
    have hkb : (k : Int) ≤ 1000 := by omega
    have HT := Lib.hid htl
    clear hml hV d ht htz hbl h0 hm
    go_enter Try.func34, Try.ntmps34
    go_wp2_with fail
    go_loop [4, 5] (fun aa tt => ∃ (b u : Nat), aa = .int .i64 (b : Int) ∧ tt = .int .u64 (u : Int) ∧ b + bl u = bl t ∧ u < 4294967296) (fun _ tt => (intOf tt).toNat)
    case atStart => exact ⟨0, t, rfl, rfl, by omega, HT.out⟩
    case round =>
      obtain ⟨b, u, rfl, rfl, hbu, hu⟩ := hrel
      have hb32 := bl_lt32 HT.out
      have hbb : (b : Int) ≤ 32 := by omega
      by_cases hu0 : 0 < u
      · have hui : (0 : Int) < u := by omega
        have hu2 : IntKind.u64.wrap ((u : Int) / 2) = (u : Int) / 2 := IntWalk.u64_in _ (by omega)
        have hud : decide ((0 : Int) < (u : Int)) = true := decide_eq_true hui
        have hh := bl_half (t := u) (by omega)
        have HB := Lib.hid (And.intro hbu (And.intro hu hh))
        clear hbu hu hh hb32
        go_wp2_with fail
        go_round
        case measure => simp [intOf]; omega
        exact ⟨b + 1, u / 2, by simp, by simp, by have := HB.out.1; have := HB.out.2.2; omega, by have := HB.out.2.1; omega⟩
      · obtain rfl : u = 0 := by omega
        have hbe : b = bl t := by have : bl 0 = 0 := rfl; omega
        have HB := Lib.hid hbe
        clear hbu hu hb32 hbe hu0
        go_wp2_with fail
        go_ret
        refine ⟨?_, rfl⟩
        rw [← HB.out]
        simp
set_option maxRecDepth 100000 in
set_option maxHeartbeats 4000000 in
theorem rbytes_any (A : Option Addr) (m c : Nat) (v n : Nat) (w : World) (h : RdC Try.eU w A m (dB 4294967296 v)) (hm : m ≤ 1000) (hn : n ≤ 65536) (hbits : bl v ≤ 8 * n) :
    Calls Try.prog 49 #[.slice A m c, .int .i64 (n : Int)] w fun e w' => ∃ A1 n1 c1, e = .returned (.tuple #[.slice A1 n1 c1, .bool true]) ∧ Own w' w.heap.size (.slice A1 n1 c1) (beN n v) ∧ Below w.heap.size w w' := by
  obtain ⟨X, hX⟩ : ∃ X, w.heap.size = X := ⟨_, rfl⟩
  have hb := rbits_any A m c v w h hm
  have hmk := Try.prog_make n (by omega) w
  obtain ⟨w1, hw1⟩ : ∃ w1, w.alloc (.cells (madeCells #[.int .u8 0] n) 5) = w1 := ⟨_, rfl⟩
  have hO := Own.made w n (by unfold maxLen; omega)
  have hb1 : Below w.heap.size w w1 := by rw [← hw1]; exact (Below.refl _ _).alloc (Nat.le_refl _) _
  rw [hw1, hX] at hO hmk
  rw [← rowR_zero n v] at hO
  have hml := h.1
  obtain ⟨bv, hbv⟩ : ∃ bv, bl v = bv := ⟨_, rfl⟩
  rw [hbv] at hb hbits
  have H1 := Lib.hid (And.intro h (And.intro hO (And.intro hb1 (And.intro hX hml))))
  clear h hO hb1 hml
  have t1 : ¬ ((n : Int) < 0) := by omega
  have t1d : decide ((n : Int) < 0) = false := decide_eq_false t1
  have t2 : ¬ (65536 : Int) < n := by omega
  have t2d : decide ((65536 : Int) < (n : Int)) = false := decide_eq_false t2
  have t3 : ¬ (8 * (n : Int) < bv) := by omega
  have t3d : decide (8 * (n : Int) < (bv : Int)) = false := decide_eq_false t3
  go_enter Try.func49, Try.ntmps49
  go_wp2_with fail
  refine hb.mono ?_
  rintro e w' ⟨rfl, rfl⟩
  clear hb
  go_wp2_with fail
  try rw [hw1]
  try rw [hX]
  go_wp2_with fail
  go_loopw [7] (fun kk wr => ∃ i : Nat, i ≤ n ∧ kk = .int .i64 (i : Int) ∧ Own wr X (.slice (some ⟨X, 0, none⟩) n n) (rowR n v i) ∧ Turn [X] w1 wr) (fun kk _ => n - (intOf kk).toNat)
  case atStart => exact ⟨0, by omega, rfl, H1.out.2.1, Turn.refl _ _⟩
  case round =>
    obtain ⟨i, hi, rfl, hO, hT⟩ := hrel
    have hbw : Below X w wr := by have := below_turn (H1.out.2.2.1) hT (fun t ht => by simp at ht; have := H1.out.2.2.2.1; omega) H1.out.2.2.1.size; rwa [H1.out.2.2.2.1] at this
    have hR : RdC Try.eU wr A m (dB 4294967296 v) := H1.out.1.below (by rw [H1.out.2.2.2.1]; exact hbw)
    obtain ⟨q, hqq⟩ : ∃ q, i / 4 = q := ⟨_, rfl⟩
    have hk2 : (i : Int).tdiv 4 = (q : Int) := by rw [Int.tdiv_eq_ediv_of_nonneg (by omega)]; omega
    have hqb : (q : Int) ≤ 65536 := by omega
    have hi0 : ¬ ((i : Int) < 0) := by omega
    by_cases hlt : i < n
    · have hlti : (i : Int) < n := by omega
      have hltd : decide ((i : Int) < (n : Int)) = true := decide_eq_true hlti
      by_cases hq : q < m
      · have hqi : (q : Int) < m := by omega
        have hqd : decide ((q : Int) < (m : Int)) = true := decide_eq_true hqi
        have hq0 : ¬ ((q : Int) < 0) := by omega
        obtain ⟨r, hrr⟩ : ∃ r, i % 4 = r := ⟨_, rfl⟩
        have hk3 : (i : Int).tmod 4 = (r : Int) := by rw [Int.tmod_eq_emod_of_nonneg (by omega)]; omega
        have hr8 : r < 4 := by omega
        obtain ⟨k, hk⟩ : ∃ k, n - 1 - i = k := ⟨_, rfl⟩
        have hk1 : (n : Int) - 1 - i = k := by omega
        have hkn : (k : Int) < n := by omega
        have hk0 : ¬ ((k : Int) < 0) := by omega
        have hst := rowR_step (v := v) hlt
        rw [hk] at hst
        obtain ⟨x, hx⟩ : ∃ x, (dB 4294967296 v)[q]? = some x := ⟨_, List.getElem?_eq_getElem (by have := H1.out.2.2.2.2; omega)⟩
        obtain ⟨g, off, hAe, cx⟩ := limb_at hR hx
        subst hAe
        have hby := byte32 hr8 hx
        rw [show 4 * q + r = i by omega] at hby
        have hxl := x.toNat_lt
        have fr := hO.frozen k
        obtain ⟨z, cz⟩ : ∃ z, wr.cell? ⟨X, k, none⟩ = some z := ⟨_, by have := hO.at_.cell (k := k) (by rw [rowR_len]; omega); rw [Nat.zero_add] at this; exact this⟩
        have HS := Lib.hid (And.intro hO (And.intro hT (And.intro hst (And.intro hby hk))))
        clear hO hT hst hby hx hbw hR hqq hrr hk
        go_wp2_with fail
        go_roundw
        case measure => simp [intOf]; omega
        have hB : B (byteAt v i) = .int .u8 ((x.toNat : Int) / 2 ^ (8 * r) % 256) := by rw [HS.out.2.2.2.1]; unfold B; rw [byte_nat]; simp
        have hO2 := HS.out.1.set_ k (byteAt v i) (by omega)
        rw [← HS.out.2.2.1, hB] at hO2
        exact ⟨i + 1, by omega, by simp, hO2, HS.out.2.1.setCell (.inl (by simp)) _⟩
      · have hqi : ¬ (q : Int) < m := by omega
        have hqd : decide ((q : Int) < (m : Int)) = false := decide_eq_false hqi
        have hfull : rowR n v i = beN n v := rowR_full fun k h1 h2 => byte32_none (by have := H1.out.2.2.2.2; omega)
        rw [hfull] at hO
        have HS := Lib.hid (And.intro hO hbw)
        clear hO hT hbw hR hqq hfull
        go_wp2_with fail
        go_ret2
        exact ⟨_, _, _, rfl, HS.out.1, HS.out.2⟩
    · obtain rfl : i = n := by omega
      have hlti : ¬ (i : Int) < i := by omega
      rw [rowR_full (fun k h1 h2 => by omega)] at hO
      have HS := Lib.hid (And.intro hO hbw)
      clear hO hT hbw hR hqq
      go_wp2_with fail
      go_ret2
      exact ⟨_, _, _, rfl, HS.out.1, HS.out.2⟩
end Go.Proofs.Ytgkhhinjdojbhaa
namespace Go.Proofs.Ytgkhhinjdojbhaa
open Go.RowKit

theorem limbs32_step {N v k c : Nat} (hv : v % 256 ^ (k + 1) = 0) (hc : c < 256) (hq : k / 4 < N) :
    limbs32 N (v + c * 256 ^ k) = (limbs32 N v).set (k / 4) (UInt64.ofNat (v / 4294967296 ^ (k / 4) % 4294967296 + c * 2 ^ (8 * (k % 4)))) ∧ v / 4294967296 ^ (k / 4) % 4294967296 + c * 2 ^ (8 * (k % 4)) < 4294967296 := by
  obtain ⟨t, rfl⟩ : ∃ t, v = 256 ^ (k + 1) * t := ⟨v / 256 ^ (k + 1), by have := Nat.div_add_mod v (256 ^ (k + 1)); omega⟩
  obtain ⟨q, hqq⟩ : ∃ q, k / 4 = q := ⟨_, rfl⟩
  obtain ⟨r, hrr⟩ : ∃ r, k % 4 = r := ⟨_, rfl⟩
  have hk : k = 4 * q + r := by omega
  have hr : r < 4 := by omega
  rw [hqq, hrr]
  have hS : 256 ^ (k + 1) * t + c * 256 ^ k = 256 ^ k * (256 * t + c) := by rw [Nat.pow_succ, Nat.mul_add, Nat.mul_assoc, Nat.mul_comm c]
  have hV : 256 ^ (k + 1) * t = 256 ^ k * (256 * t) := by rw [Nat.pow_succ, Nat.mul_assoc]
  have hb : ∀ e, (4294967296 : Nat) ^ e = 256 ^ (4 * e) := fun e => by rw [Nat.pow_mul]
  have hdq : ∀ X, 256 ^ k * X / 4294967296 ^ q = 256 ^ r * X := fun X => by
    rw [hb, hk, Nat.pow_add, Nat.mul_assoc, Nat.mul_div_cancel_left _ (Nat.pow_pos (by omega))]
  have hmain : 256 ^ r * (256 * t + c) % 4294967296 = 256 ^ r * (256 * t) % 4294967296 + c * 2 ^ (8 * r) ∧ 256 ^ r * (256 * t) % 4294967296 + c * 2 ^ (8 * r) < 4294967296 := by
    rcases (show r = 0 ∨ r = 1 ∨ r = 2 ∨ r = 3 by omega) with rfl | rfl | rfl | rfl <;> simp only [Nat.reducePow, Nat.reduceMul, Nat.mul_zero, Nat.one_mul, Nat.mul_one] <;> omega
  refine ⟨?_, by rw [hV, hdq]; exact hmain.2⟩
  apply List.ext_getElem?
  intro p
  rw [List.getElem?_set]
  by_cases hp : p < N
  · rw [limbs32_get hp, limbs32_len, if_pos (show q < N by omega), limbs32_get hp]
    by_cases he : q = p
    · subst he
      rw [if_pos rfl, hS, hdq, hmain.1, hV, hdq]
    · rw [if_neg he]
      congr 2
      rcases Nat.lt_or_ge p q with h1 | h1
      · have hz : ∀ X, 256 ^ k * X / 4294967296 ^ p % 4294967296 = 0 := fun X => by
          rw [hb, show k = 4 * p + (4 + (k - 4 - 4 * p)) by omega, Nat.pow_add, Nat.mul_assoc, Nat.mul_div_cancel_left _ (Nat.pow_pos (by omega)), Nat.pow_add, show (256 : Nat) ^ 4 = 4294967296 from rfl, Nat.mul_assoc]
          exact Nat.mul_mod_right _ _
        rw [hS, hV, hz, hz]
      · have hz : ∀ X, 256 ^ k * X / 4294967296 ^ p = X / 256 / 256 ^ (4 * p - k - 1) := fun X => by
          rw [hb, show 4 * p = k + (1 + (4 * p - k - 1)) by omega, Nat.pow_add, ← Nat.div_div_eq_div_mul, Nat.mul_div_cancel_left _ (Nat.pow_pos (by omega)), Nat.pow_add, Nat.pow_one, ← Nat.div_div_eq_div_mul]
          congr 2
          omega
        rw [hS, hV, hz, hz, show (256 * t + c) / 256 = t by omega, show 256 * t / 256 = t by omega]
  · rw [List.getElem?_eq_none (by rw [limbs32_len]; omega), List.getElem?_eq_none (by rw [limbs32_len]; omega), if_neg (by omega)]
set_option maxRecDepth 100000 in
set_option maxHeartbeats 2000000 in
theorem rfromBytes_any (A : Option Addr) (m c : Nat) (b : List UInt8) (w : World) (h : Rd w A m c b) (hm : m ≤ 4000) :
    Calls Try.prog 47 #[.slice A m c] w fun e w' => ∃ A1 n1, e = .returned (.slice A1 n1 n1) ∧ RN w' w.heap.size A1 n1 (beVal b) ∧ Below w.heap.size w w' := by
  obtain ⟨X, hX⟩ : ∃ X, w.heap.size = X := ⟨_, rfl⟩
  obtain ⟨N, hN⟩ : ∃ N, (m + 3) / 4 = N := ⟨_, rfl⟩
  have hq0 : ((m : Int) + 3).tdiv 4 = (N : Int) := by rw [Int.tdiv_eq_ediv_of_nonneg (by omega)]; omega
  have hbm := h.1
  have hNb : N ≤ 200000 := by omega
  have hmk := make_rnat N (by omega) w
  obtain ⟨w1, hw1⟩ : ∃ w1, w.alloc (.cells (madeCells #[.int .u64 0] N) 58) = w1 := ⟨_, rfl⟩
  have hb1 : Below w.heap.size w w1 := by rw [← hw1]; exact (Below.refl _ _).alloc (Nat.le_refl _) _
  have hR1 : URow w1 X (limbs32 N (vAt b 0)) := by rw [vAt_zero, limbs32_zero, ← hw1, ← hX]; exact URow.new w N (by omega)
  have hbv : beVal b < 4294967296 ^ N := by
    have h1 := beVal_lt b
    have h2 : (256 : Nat) ^ b.length ≤ 4294967296 ^ N := by
      rw [show (4294967296 : Nat) = 256 ^ 4 from rfl, ← Nat.pow_mul]
      exact Nat.pow_le_pow_right (by omega) (by omega)
    omega
  rw [hw1, hX] at hmk
  have H1 := Lib.hid (And.intro h (And.intro hR1 (And.intro hb1 hX)))
  have HN := Lib.hid (And.intro hN hbv)
  have HM := Lib.hid hbm
  clear h hR1 hb1 hN hbm hbv
  go_enter Try.func47, Try.ntmps47
  go_wp2_with fail
  try rw [hw1]
  try rw [hX]
  go_wp2_with fail
  go_loopw [4] (fun kk wr => ∃ i : Nat, i ≤ m ∧ kk = .int .i64 (i : Int) ∧ URow wr X (limbs32 N (vAt b i)) ∧ Turn [X] w1 wr) (fun kk _ => m - (intOf kk).toNat)
  case atStart => exact ⟨0, by omega, rfl, H1.out.2.1, Turn.refl _ _⟩
  case round =>
    obtain ⟨i, hi, rfl, hR, hT⟩ := hrel
    have hbw : Below X w wr := by have := below_turn (H1.out.2.2.1) hT (fun t ht => by simp at ht; have := H1.out.2.2.2; omega) H1.out.2.2.1.size; rwa [H1.out.2.2.2] at this
    have hRb : Rd wr A m c b := H1.out.1.below (by rw [H1.out.2.2.2]; exact hbw)
    by_cases hlt : i < m
    · have hlti : (i : Int) < m := by omega
      have hltd : decide ((i : Int) < (m : Int)) = true := decide_eq_true hlti
      have hi0 : ¬ ((i : Int) < 0) := by omega
      obtain ⟨g, off, hAe, hat⟩ := hRb.addr (by omega)
      subst hAe
      obtain ⟨x, hx⟩ : ∃ x, b[i]? = some x := ⟨_, List.getElem?_eq_getElem (by have := HM.out; omega)⟩
      have cx := hat.2 i x hx
      unfold B at cx
      obtain ⟨k, hk⟩ : ∃ k, m - 1 - i = k := ⟨_, rfl⟩
      have hk1 : IntKind.i64.wrap ((m : Int) - 1 - i) = k := (IntWalk.i64_in _ (by omega)).trans (by omega)
      have hk1' : (m : Int) - 1 - i = k := by omega
      obtain ⟨st, sv⟩ := vAt_step (k := k) hx (by rw [← HM.out]; exact hk)
      obtain ⟨q, hqq⟩ : ∃ q, k / 4 = q := ⟨_, rfl⟩
      obtain ⟨r, hrr⟩ : ∃ r, k % 4 = r := ⟨_, rfl⟩
      have hk2 : (k : Int).tdiv 4 = (q : Int) := by rw [Int.tdiv_eq_ediv_of_nonneg (by omega)]; omega
      have hk3 : (k : Int).tmod 4 = (r : Int) := by rw [Int.tmod_eq_emod_of_nonneg (by omega)]; omega
      have hk4 : IntKind.i64.wrap (8 * (r : Int)) = 8 * (r : Int) := IntWalk.i64_in _ (by omega)
      have hr8 : r < 4 := by omega
      have hk5 : IntKind.i64.wrap (q : Int) = q := IntWalk.i64_in _ (by omega)
      have hk6 : IntKind.i64.wrap (r : Int) = r := IntWalk.i64_in _ (by omega)
      have hr80 : (0 : Int) ≤ 8 * (r : Int) := by omega
      have hr81 : 8 * (r : Int) < 64 := by omega
      have hr82 : (8 * (r : Int)).toNat = 8 * r := by omega
      have hqN : q < N := by have := HN.out.1; omega
      have hq0 : ¬ ((q : Int) < 0) := by omega
      have hqi : (q : Int) < N := by omega
      have hq00 : (0 : Int) ≤ q := by omega
      obtain ⟨hl, or2⟩ := limbs32_step (N := N) sv x.toNat_lt (by rw [hqq]; exact hqN)
      rw [hqq, hrr] at hl or2
      rw [← st] at hl
      obtain ⟨V, hV⟩ : ∃ V, vAt b i / 4294967296 ^ q % 4294967296 = V := ⟨_, rfl⟩
      have cq := hR.cell (limbs32_get (v := vAt b i) hqN)
      rw [hV] at hl or2 cq
      have hVl : V < 4294967296 := by omega
      rw [UInt64.toNat_ofNat', Nat.mod_eq_of_lt (show V < 2 ^ 64 by omega)] at cq
      have fq := Row.frozen hR q
      have hxl := x.toNat_lt
      obtain ⟨xn, hxn⟩ : ∃ xn, x.toNat = xn := ⟨_, rfl⟩
      rw [hxn] at cx hl or2 hxl
      have hxw : IntKind.u64.wrap (xn : Int) = xn := IntWalk.u64_in _ (by omega)
      have e2 : ((xn : Int) * 2 ^ (8 * r)) = ((xn * 2 ^ (8 * r) : Nat) : Int) := by simp
      have hsh : IntKind.u64.wrap ((xn : Int) * 2 ^ (8 * r)) = (xn : Int) * 2 ^ (8 * r) := IntWalk.u64_in _ (by rw [e2]; omega)
      have hsum : IntKind.u64.wrap ((V : Int) + (xn : Int) * 2 ^ (8 * r)) = (V : Int) + (xn : Int) * 2 ^ (8 * r) := IntWalk.u64_in _ (by rw [e2]; omega)
      have HS := Lib.hid (And.intro hR (And.intro hT (And.intro hl or2)))
      clear hR hT hl or2 hbw hRb hat hx hk hqq hrr st sv hV hxn e2
      go_wp2_with fail
      go_still_tail 16, (by kernel_rfl)
      go_wp2_with fail
      have hR2 := HS.out.1.set q (UInt64.ofNat (V + xn * 2 ^ (8 * r)))
      rw [← HS.out.2.2.1, UInt64.toNat_ofNat', Nat.mod_eq_of_lt (show V + xn * 2 ^ (8 * r) < 2 ^ 64 by have := HS.out.2.2.2; omega)] at hR2
      have ec : ((V + xn * 2 ^ (8 * r) : Nat) : Int) = (V : Int) + (xn : Int) * 2 ^ (8 * r) := by simp
      rw [ec] at hR2
      go_roundw
      case measure => simp [intOf]; omega
      exact ⟨i + 1, by omega, by simp, hR2, (HS.out.2.1.setCell (.inl (by simp)) _).drew⟩
    · obtain rfl : i = m := by omega
      have hlti : ¬ (i : Int) < i := by omega
      have hltd : decide ((i : Int) < (i : Int)) = false := decide_eq_false hlti
      have hvf := vAt_full b
      rw [← HM.out] at hvf
      rw [hvf] at hR
      have hrd := hR.rd
      rw [limbs32_len] at hrd
      have ht := rtrim_any (some ⟨X, 0, none⟩) N N _ wr hrd ⟨Nat.le_refl _, by unfold maxLen; omega⟩ (fun h => by cases h)
      obtain ⟨hle, hte⟩ := trimL_take (limbs32 N (beVal b))
      have hrd2 := hrd.take (trimL (limbs32 N (beVal b))).length (by rw [limbs32_len] at hle; exact hle)
      rw [← hte] at hrd2
      rw [trim_limbs32 HN.out.2] at ht hrd2
      have HS := Lib.hid (And.intro hrd2 (And.intro hbw hX))
      clear hR hT hbw hRb hrd hrd2 hvf hle hte hX
      go_wp2_with fail
      refine ht.mono ?_
      rintro e w9 ⟨rfl, rfl⟩
      go_wp2_with fail
      go_ret
      have hX := HS.out.2.2
      exact ⟨_, _, rfl, ⟨HS.out.1, fun a ha => by injection ha with ha; subst ha; simp; omega, fun h => by cases h⟩, by rw [hX]; exact HS.out.2.1⟩
end Go.Proofs.Ytgkhhinjdojbhaa
