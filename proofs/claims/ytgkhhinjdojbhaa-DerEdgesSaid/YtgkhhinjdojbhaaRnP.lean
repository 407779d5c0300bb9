/-
  The reference's numbers: Power2, Sub, Add.
-/
import Derived.Test.YtgkhhinjdojbhaaRnA
import Derived.Deep.DeepCutAuto
namespace Go.Proofs.Ytgkhhinjdojbhaa
open Go.RowKit

theorem valB_zeros (b k : Nat) (x : UInt64) : valB b (List.replicate k 0 ++ [x]) = b ^ k * x.toNat := by
  induction k with
  | zero => simp [valB]
  | succ k ih =>
    rw [List.replicate_succ, List.cons_append, valB, ih, Nat.pow_succ', Nat.mul_assoc]
    simp
theorem set_last (k : Nat) (x : UInt64) : (List.replicate (k + 1) (0 : UInt64)).set k x = List.replicate k 0 ++ [x] := by
  rw [List.replicate_succ', List.set_append_right _ _ (by simp)]
  simp
theorem dB_power (n : Nat) : dB 4294967296 (2 ^ n) = List.replicate (n / 32) 0 ++ [UInt64.ofNat (2 ^ (n % 32))] := by
  have hlt : (2 : Nat) ^ (n % 32) < 4294967296 := by
    have : (2 : Nat) ^ (n % 32) < 2 ^ 32 := Nat.pow_lt_pow_right (by omega) (Nat.mod_lt _ (by omega))
    exact this
  have hx : (UInt64.ofNat (2 ^ (n % 32))).toNat = 2 ^ (n % 32) := by rw [UInt64.toNat_ofNat', Nat.mod_eq_of_lt (by omega)]
  have hne : UInt64.ofNat (2 ^ (n % 32)) ≠ 0 := by
    intro e
    have := congrArg UInt64.toNat e
    rw [hx] at this
    have h2 : 0 < 2 ^ (n % 32) := Nat.pow_pos (by omega)
    have h3 : (0 : UInt64).toNat = 0 := rfl
    omega
  have h1 := trim_dB (b := 4294967296) (by omega) (List.replicate (n / 32) 0 ++ [UInt64.ofNat (2 ^ (n % 32))]) (fun x hx' => by
    rw [List.mem_append] at hx'
    rcases hx' with h | h
    · rw [(List.mem_replicate.1 h).2]; decide
    · rw [List.mem_singleton] at h; subst h; rw [hx]; exact hlt)
  rw [trimL_snoc hne, valB_zeros, hx, show (4294967296 : Nat) = 2 ^ 32 from rfl, ← Nat.pow_mul, ← Nat.pow_add, show 32 * (n / 32) + n % 32 = n by omega] at h1
  exact h1.symm
theorem sub_step {Z Y X c : Nat} (h : Z + Y + c = X) (hc : c ≤ 1) : (X % 4294967296 < c + Y % 4294967296 → X % 4294967296 + 4294967296 - (c + Y % 4294967296) = Z % 4294967296 ∧ Z / 4294967296 + Y / 4294967296 + 1 = X / 4294967296) ∧
    (¬ X % 4294967296 < c + Y % 4294967296 → X % 4294967296 - (c + Y % 4294967296) = Z % 4294967296 ∧ Z / 4294967296 + Y / 4294967296 + 0 = X / 4294967296) := by omega
theorem add_step {Z Y X c : Nat} (h : Z = X + Y + c) (hc : c ≤ 1) : (c + X % 4294967296 + Y % 4294967296) % 4294967296 = Z % 4294967296 ∧ Z / 4294967296 = X / 4294967296 + Y / 4294967296 + (c + X % 4294967296 + Y % 4294967296) / 4294967296 ∧ (c + X % 4294967296 + Y % 4294967296) / 4294967296 ≤ 1 := by omega
/-- The digit at a place, whether it stands in the row or not. -/
theorem dig_or {n i m : Nat} (hm : (dB 4294967296 n).length = m) : (i < m ∧ (dB 4294967296 n)[i]? = some (UInt64.ofNat (n / 4294967296 ^ i % 4294967296))) ∨ (¬ i < m ∧ n / 4294967296 ^ i = 0) := by
  have h := dB_lt (b := 4294967296) (n := n) (j := i) (by omega)
  rw [hm] at h
  by_cases h1 : i < m
  · exact .inl ⟨h1, by rw [dig32, if_neg (h.1 h1)]⟩
  · right
    refine ⟨h1, ?_⟩
    rcases Nat.eq_zero_or_pos (n / 4294967296 ^ i) with h2 | h2
    · exact h2
    · exact absurd (h.2 (by omega)) h1
theorem pow_div_step (n i : Nat) : n / 4294967296 ^ (i + 1) = n / 4294967296 ^ i / 4294967296 := by rw [Nat.pow_succ, Nat.div_div_eq_div_mul]
set_option maxRecDepth 100000 in
set_option maxHeartbeats 2000000 in
theorem rpower2_any (n : Nat) (hn : n ≤ 1000) (w : World) :
    Calls Try.prog 30 #[.int .i64 (n : Int)] w fun e w' => ∃ A1 n1, e = .returned (.slice A1 n1 n1) ∧ RN w' w.heap.size A1 n1 (2 ^ n) ∧ Below w.heap.size w w' := by
  obtain ⟨X, hX⟩ : ∃ X, w.heap.size = X := ⟨_, rfl⟩
  have hd := dB_power n
  obtain ⟨k, hk⟩ : ∃ k, n / 32 = k := ⟨_, rfl⟩
  obtain ⟨r, hr⟩ : ∃ r, n % 32 = r := ⟨_, rfl⟩
  have hk1 : (n : Int).tdiv 32 = (k : Int) := by rw [Int.tdiv_eq_ediv_of_nonneg (by omega)]; omega
  have hr1 : (n : Int).tmod 32 = (r : Int) := by rw [Int.tmod_eq_emod_of_nonneg (by omega)]; omega
  rw [hk, hr, ← set_last] at hd
  have hmk := make_rnat (k + 1) (by omega) w
  rw [show ((k + 1 : Nat) : Int) = (k : Int) + 1 by simp] at hmk
  obtain ⟨w1, hw1⟩ : ∃ w1, w.alloc (.cells (madeCells #[.int .u64 0] (k + 1)) 58) = w1 := ⟨_, rfl⟩
  have hb1 : Below w.heap.size w w1 := by rw [← hw1]; exact (Below.refl _ _).alloc (Nat.le_refl _) _
  have hR1 : URow w1 X (List.replicate (k + 1) 0) := by rw [← hw1, ← hX]; exact URow.new w (k + 1) (by omega)
  rw [hw1, hX] at hmk
  have c0 := hR1.cell (q := k) (x := 0) (by simp)
  have fr := Row.frozen hR1 k
  have hr32 : r < 32 := by omega
  have hx : (UInt64.ofNat (2 ^ r)).toNat = 2 ^ r := by
    rw [UInt64.toNat_ofNat', Nat.mod_eq_of_lt (Nat.pow_lt_pow_right (by omega) (by omega))]
  have hR2 := hR1.set k (UInt64.ofNat (2 ^ r))
  rw [hx, ← hd, show ((2 ^ r : Nat) : Int) = (2 : Int) ^ r by simp] at hR2
  have hsh : IntKind.u64.wrap ((2 : Int) ^ r) = (2 : Int) ^ r := IntWalk.u64_in _ (by
    have h1 : (2 : Nat) ^ r < 2 ^ 32 := Nat.pow_lt_pow_right (by omega) hr32
    have h2 : ((2 ^ r : Nat) : Int) = (2 : Int) ^ r := by simp
    rw [← h2]; omega)
  have hdl : (dB 4294967296 (2 ^ n)).length = k + 1 := by rw [hd]; simp
  have hr0 : (0 : Int) ≤ r := by omega
  have hr64 : (r : Int) < 64 := by omega
  have hk0 : ¬ ((k : Int) < 0) := by omega
  have hkk : (k : Int) < (k : Int) + 1 := by omega
  have hkb : (k : Int) ≤ 32 := by omega
  have H1 := Lib.hid (And.intro hR2 (And.intro hb1 (And.intro hX hdl)))
  clear hR1 hR2 hb1 hd hx hk hr hdl
  go_enter Try.func30, Try.ntmps30
  go_wp2_with fail
  try rw [hw1]
  try rw [hX]
  clear hmk hw1 hX
  go_wp2_with fail
  go_ret
  obtain ⟨hR2, hb1, hX, hdl⟩ := H1.out
  have hrd := hR2.rd
  rw [hdl] at hrd
  subst hX
  refine ⟨_, _, rfl, ⟨hrd, fun a ha => by injection ha with ha; subst ha; exact Nat.le_refl _, fun h => by cases h⟩, ?_⟩
  exact below_turn hb1 ((Turn.refl [w.heap.size] _).setCell (.inl (by simp)) _) (fun t ht => by simp at ht; omega) hb1.size
set_option maxRecDepth 100000 in
set_option maxHeartbeats 4000000 in
theorem rsub_any (A : Option Addr) (m c : Nat) (x : Nat) (B : Option Addr) (k d : Nat) (y : Nat) (w : World) (h : RdC Try.eU w A m (dB 4294967296 x)) (h2 : RdC Try.eU w B k (dB 4294967296 y)) (hm : m ≤ 1000) (hk : k ≤ 1000) (hxy : y ≤ x) :
    Calls Try.prog 31 #[.slice A m c, .slice B k d] w fun e w' => ∃ A1 n1, e = .returned (.slice A1 n1 n1) ∧ RN w' w.heap.size A1 n1 (x - y) ∧ Below w.heap.size w w' := by
  obtain ⟨X, hX⟩ : ∃ X, w.heap.size = X := ⟨_, rfl⟩
  obtain ⟨z, hz⟩ : ∃ z, x - y = z := ⟨_, rfl⟩
  have hml := h.1
  have hkl := h2.1
  have hmk := make_rnat m (by omega) w
  obtain ⟨w1, hw1⟩ : ∃ w1, w.alloc (.cells (madeCells #[.int .u64 0] m) 58) = w1 := ⟨_, rfl⟩
  have hb1 : Below w.heap.size w w1 := by rw [← hw1]; exact (Below.refl _ _).alloc (Nat.le_refl _) _
  have hR1 : URow w1 X (half m z 0) := by rw [half_zero, ← hw1, ← hX]; exact URow.new w m (by omega)
  rw [hw1, hX] at hmk
  have hzl : z < 4294967296 ^ m := by
    have h9 : ¬ (x / 4294967296 ^ m ≠ 0) := fun h' => by have := (dB_lt (b := 4294967296) (n := x) (by omega)).2 h'; omega
    have h8 : x < 4294967296 ^ m := by
      rcases Nat.lt_or_ge x (4294967296 ^ m) with h7 | h7
      · exact h7
      · have := Nat.div_pos h7 (Nat.pow_pos (by omega)); omega
    omega
  have hst0 : z / 4294967296 ^ 0 + y / 4294967296 ^ 0 + 0 = x / 4294967296 ^ 0 := by rw [Nat.pow_zero, Nat.div_one, Nat.div_one, Nat.div_one]; omega
  have H1 := Lib.hid (And.intro h (And.intro hR1 (And.intro hb1 (And.intro hX (And.intro hml (And.intro h2 (And.intro hkl (And.intro hzl hst0))))))))
  rw [hz]
  clear h hR1 hb1 hml h2 hkl hz hzl hst0 hxy
  go_enter Try.func31, Try.ntmps31
  go_wp2_with fail
  try rw [hw1]
  try rw [hX]
  clear hmk hw1 hX
  go_loopw [6, 7] (fun bb kk wr => ∃ i c : Nat, i ≤ m ∧ c ≤ 1 ∧ bb = .int .u64 (c : Int) ∧ kk = .int .i64 (i : Int) ∧ URow wr X (half m z i) ∧ Turn [X] w1 wr ∧ z / 4294967296 ^ i + y / 4294967296 ^ i + c = x / 4294967296 ^ i) (fun _ kk _ => m - (intOf kk).toNat)
  case atStart => exact ⟨0, 0, by omega, by omega, rfl, rfl, H1.out.2.1, Turn.refl _ _, H1.out.2.2.2.2.2.2.2.2⟩
  case round =>
    obtain ⟨i, cb, hi, hcb, rfl, rfl, hR, hT, hst⟩ := hrel
    obtain ⟨hA, _, hb1, hX, hml, hB, hkl, hzl, _⟩ := H1.out
    have hbw : Below X w wr := by have := below_turn hb1 hT (fun t ht => by simp at ht; omega) hb1.size; rwa [hX] at this
    have hAr : RdC Try.eU wr A m (dB 4294967296 x) := hA.below (by rw [hX]; exact hbw)
    have hBr : RdC Try.eU wr B k (dB 4294967296 y) := hB.below (by rw [hX]; exact hbw)
    by_cases hlt : i < m
    · have hlti : (i : Int) < m := by omega
      have hltd : decide ((i : Int) < (m : Int)) = true := decide_eq_true hlti
      have hi0 : ¬ ((i : Int) < 0) := by omega
      obtain ⟨sA, sB⟩ := sub_step hst hcb
      have dx : (dB 4294967296 x)[i]? = some (UInt64.ofNat (x / 4294967296 ^ i % 4294967296)) := by
        rcases dig_or (n := x) (i := i) hml with h | h
        · exact h.2
        · exact absurd hlt h.1
      obtain ⟨xi, hxi⟩ : ∃ xi, x / 4294967296 ^ i % 4294967296 = xi := ⟨_, rfl⟩
      have hxl : xi < 4294967296 := by rw [← hxi]; exact Nat.mod_lt _ (by omega)
      obtain ⟨yi, hyi⟩ : ∃ yi, y / 4294967296 ^ i % 4294967296 = yi := ⟨_, rfl⟩
      have hyl : yi < 4294967296 := by rw [← hyi]; exact Nat.mod_lt _ (by omega)
      rw [hxi] at dx
      obtain ⟨g, off, hAe, cx⟩ := limb_at hAr dx
      rw [UInt64.toNat_ofNat', Nat.mod_eq_of_lt (show xi < 2 ^ 64 by omega)] at cx
      rw [hxi, hyi, ← pow_div_step, ← pow_div_step, ← pow_div_step] at sA sB
      have s1 := half_step (N := m) (v := z) (i := i) hlt
      have fr := Row.frozen hR i
      have cp := hR.cell (q := i) (half_get hlt)
      rw [show (((0 : UInt64).toNat : Nat) : Int) = 0 from rfl] at cp
      have hxb : (xi : Int) < 4294967296 := by omega
      have hyb : (yi : Int) < 4294967296 := by omega
      have hcbi : (cb : Int) ≤ 1 := by omega
      have hib : (i : Int) ≤ 1000 := by omega
      subst hAe
      rcases dig_or (n := y) (i := i) hkl with ⟨hik, dy⟩ | ⟨hik, dy⟩
      · have hiki : (i : Int) < k := by omega
        have hikd : decide ((i : Int) < (k : Int)) = true := decide_eq_true hiki
        rw [hyi] at dy
        obtain ⟨g', off', hBe, cy⟩ := limb_at hBr dy
        rw [UInt64.toNat_ofNat', Nat.mod_eq_of_lt (show yi < 2 ^ 64 by omega)] at cy
        subst hBe
        obtain ⟨ls, hls⟩ : ∃ ls, cb + yi = ls := ⟨_, rfl⟩
        have hlsi : (cb : Int) + (yi : Int) = (ls : Int) := by omega
        have hlsb : (ls : Int) ≤ 4294967296 := by omega
        rw [hls] at sA sB
        by_cases hb : xi < ls
        · have hbi : (xi : Int) < ls := by omega
          have hbd : decide ((xi : Int) < (ls : Int)) = true := decide_eq_true hbi
          obtain ⟨q1, q2⟩ := sA hb
          obtain ⟨zi, hzi⟩ : ∃ zi, xi + 4294967296 - ls = zi := ⟨_, rfl⟩
          have hzii : (xi : Int) + 4294967296 - (ls : Int) = (zi : Int) := by omega
          have hzb : (zi : Int) < 4294967296 := by omega
          have hR2 := hR.set i (UInt64.ofNat zi)
          rw [hzi] at q1
          rw [q1, ← s1, ← q1, UInt64.toNat_ofNat', Nat.mod_eq_of_lt (show zi < 2 ^ 64 by omega)] at hR2
          have HS := Lib.hid (And.intro hR2 (And.intro hT q2))
          clear hR hAr hBr hbw dx s1 sA sB hst hR2 hT q1 q2 hzi hxi hyi hA hb1 hX hml hB hkl hzl dy hls
          go_wp2_with fail
          go_roundw
          case measure => simp [intOf]; omega
          exact ⟨i + 1, 1, by omega, by omega, by simp, by simp, HS.out.1, HS.out.2.1.setCell (.inl (by simp)) _, HS.out.2.2⟩
        · have hbi : ¬ (xi : Int) < ls := by omega
          have hbd : decide ((xi : Int) < (ls : Int)) = false := decide_eq_false hbi
          obtain ⟨q1, q2⟩ := sB hb
          obtain ⟨zi, hzi⟩ : ∃ zi, xi - ls = zi := ⟨_, rfl⟩
          have hzii : (xi : Int) - (ls : Int) = (zi : Int) := by omega
          have hzb : (zi : Int) < 4294967296 := by omega
          have hR2 := hR.set i (UInt64.ofNat zi)
          rw [hzi] at q1
          rw [q1, ← s1, ← q1, UInt64.toNat_ofNat', Nat.mod_eq_of_lt (show zi < 2 ^ 64 by omega)] at hR2
          have HS := Lib.hid (And.intro hR2 (And.intro hT q2))
          clear hR hAr hBr hbw dx s1 sA sB hst hR2 hT q1 q2 hzi hxi hyi hA hb1 hX hml hB hkl hzl dy hls
          go_wp2_with fail
          go_roundw
          case measure => simp [intOf]; omega
          exact ⟨i + 1, 0, by omega, by omega, by simp, by simp, HS.out.1, HS.out.2.1.setCell (.inl (by simp)) _, HS.out.2.2⟩
      · have hiki : ¬ (i : Int) < k := by omega
        have hikd : decide ((i : Int) < (k : Int)) = false := decide_eq_false hiki
        have hy0 : yi = 0 := by rw [← hyi, dy]
        have hlsb : (cb : Int) ≤ 4294967296 := by omega
        rw [hy0, Nat.add_zero] at sA sB
        by_cases hb : xi < cb
        · have hbi : (xi : Int) < cb := by omega
          have hbd : decide ((xi : Int) < (cb : Int)) = true := decide_eq_true hbi
          obtain ⟨q1, q2⟩ := sA hb
          obtain ⟨zi, hzi⟩ : ∃ zi, xi + 4294967296 - cb = zi := ⟨_, rfl⟩
          have hzii : (xi : Int) + 4294967296 - (cb : Int) = (zi : Int) := by omega
          have hzb : (zi : Int) < 4294967296 := by omega
          have hR2 := hR.set i (UInt64.ofNat zi)
          rw [hzi] at q1
          rw [q1, ← s1, ← q1, UInt64.toNat_ofNat', Nat.mod_eq_of_lt (show zi < 2 ^ 64 by omega)] at hR2
          have HS := Lib.hid (And.intro hR2 (And.intro hT q2))
          clear hR hAr hBr hbw dx s1 sA sB hst hR2 hT q1 q2 hzi hxi hyi hA hb1 hX hml hB hkl hzl dy hy0
          go_wp2_with fail
          go_roundw
          case measure => simp [intOf]; omega
          exact ⟨i + 1, 1, by omega, by omega, by simp, by simp, HS.out.1, HS.out.2.1.setCell (.inl (by simp)) _, HS.out.2.2⟩
        · have hbi : ¬ (xi : Int) < cb := by omega
          have hbd : decide ((xi : Int) < (cb : Int)) = false := decide_eq_false hbi
          obtain ⟨q1, q2⟩ := sB hb
          obtain ⟨zi, hzi⟩ : ∃ zi, xi - cb = zi := ⟨_, rfl⟩
          have hzii : (xi : Int) - (cb : Int) = (zi : Int) := by omega
          have hzb : (zi : Int) < 4294967296 := by omega
          have hR2 := hR.set i (UInt64.ofNat zi)
          rw [hzi] at q1
          rw [q1, ← s1, ← q1, UInt64.toNat_ofNat', Nat.mod_eq_of_lt (show zi < 2 ^ 64 by omega)] at hR2
          have HS := Lib.hid (And.intro hR2 (And.intro hT q2))
          clear hR hAr hBr hbw dx s1 sA sB hst hR2 hT q1 q2 hzi hxi hyi hA hb1 hX hml hB hkl hzl dy hy0
          go_wp2_with fail
          go_roundw
          case measure => simp [intOf]; omega
          exact ⟨i + 1, 0, by omega, by omega, by simp, by simp, HS.out.1, HS.out.2.1.setCell (.inl (by simp)) _, HS.out.2.2⟩
    · obtain rfl : i = m := by omega
      have hlti : ¬ (i : Int) < i := by omega
      have hltd : decide ((i : Int) < (i : Int)) = false := decide_eq_false hlti
      rw [half_full] at hR
      have hrd := hR.rd
      rw [limbs32_len] at hrd
      have ht := rtrim_any (some ⟨X, 0, none⟩) i i _ wr hrd ⟨Nat.le_refl _, by unfold maxLen; omega⟩ (fun h => by cases h)
      obtain ⟨hle, hte⟩ := trimL_take (limbs32 i z)
      have hrd2 := hrd.take (trimL (limbs32 i z)).length (by rw [limbs32_len] at hle; exact hle)
      rw [← hte] at hrd2
      rw [trim_limbs32 hzl] at ht hrd2
      have HS := Lib.hid (And.intro hrd2 (And.intro hbw hX))
      clear hR hT hbw hrd hrd2 hle hte hAr hBr hst hA hb1 hX hml hB hkl hzl
      go_wp2_with fail
      refine ht.mono ?_
      rintro e w9 ⟨rfl, rfl⟩
      go_wp2_with fail
      go_ret
      have hX := HS.out.2.2
      exact ⟨_, _, rfl, ⟨HS.out.1, fun a ha => by injection ha with ha; subst ha; simp; omega, fun h => by cases h⟩, by rw [hX]; exact HS.out.2.1⟩
set_option maxRecDepth 100000 in
set_option maxHeartbeats 4000000 in
theorem radd_any (A : Option Addr) (m c : Nat) (x : Nat) (B : Option Addr) (k d : Nat) (y : Nat) (w : World) (h : RdC Try.eU w A m (dB 4294967296 x)) (h2 : RdC Try.eU w B k (dB 4294967296 y)) (hm : m ≤ 900) (hk : k ≤ 900) :
    Calls Try.prog 32 #[.slice A m c, .slice B k d] w fun e w' => ∃ A1 n1, e = .returned (.slice A1 n1 n1) ∧ RN w' w.heap.size A1 n1 (x + y) ∧ Below w.heap.size w w' := by
  obtain ⟨X, hX⟩ : ∃ X, w.heap.size = X := ⟨_, rfl⟩
  obtain ⟨z, hz⟩ : ∃ z, x + y = z := ⟨_, rfl⟩
  obtain ⟨M, hM⟩ : ∃ M, max m k = M := ⟨_, rfl⟩
  have hml := h.1
  have hkl := h2.1
  have hmk := make_rnat (M + 1) (by omega) w
  rw [show ((M + 1 : Nat) : Int) = (M : Int) + 1 by simp] at hmk
  obtain ⟨w1, hw1⟩ : ∃ w1, w.alloc (.cells (madeCells #[.int .u64 0] (M + 1)) 58) = w1 := ⟨_, rfl⟩
  have hb1 : Below w.heap.size w w1 := by rw [← hw1]; exact (Below.refl _ _).alloc (Nat.le_refl _) _
  have hR1 : URow w1 X (half (M + 1) z 0) := by rw [half_zero, ← hw1, ← hX]; exact URow.new w (M + 1) (by omega)
  rw [hw1, hX] at hmk
  have hlt1 : ∀ (v l : Nat), (dB 4294967296 v).length = l → l ≤ M → v < 4294967296 ^ M := fun v l hl hM' => by
    have h9 : ¬ (v / 4294967296 ^ M ≠ 0) := fun h' => by have := (dB_lt (b := 4294967296) (n := v) (by omega)).2 h'; omega
    rcases Nat.lt_or_ge v (4294967296 ^ M) with h7 | h7
    · exact h7
    · have := Nat.div_pos h7 (Nat.pow_pos (by omega)); omega
  have hzl : z < 4294967296 ^ (M + 1) := by
    have h1 := hlt1 x m hml (by omega)
    have h2 := hlt1 y k hkl (by omega)
    rw [Nat.pow_succ]
    omega
  have hst0 : z / 4294967296 ^ 0 = x / 4294967296 ^ 0 + y / 4294967296 ^ 0 + 0 := by rw [Nat.pow_zero, Nat.div_one, Nat.div_one, Nat.div_one]; omega
  have H1 := Lib.hid (And.intro h (And.intro hR1 (And.intro hb1 (And.intro hX (And.intro hml (And.intro h2 (And.intro hkl (And.intro hzl hst0))))))))
  rw [hz]
  have HMM := Lib.hid hM
  have hMb : M ≤ 900 := by omega
  clear h hR1 hb1 hml h2 hkl hz hzl hst0 hlt1
  go_enter Try.func32, Try.ntmps32
  go_upto_if 14 with fail
  go_cut [5] (fun s wx => s = .int .i64 (M : Int) ∧ wx = w)
  case first =>
    by_cases hmk' : m < k
    · have t1 : (m : Int) < k := by omega
      have t1d : decide ((m : Int) < (k : Int)) = true := decide_eq_true t1
      obtain rfl : k = M := by omega
      clear hM
      go_wp2_with fail
      go_meet
      exact ⟨rfl, rfl⟩
    · have t1 : ¬ (m : Int) < k := by omega
      have t1d : decide ((m : Int) < (k : Int)) = false := decide_eq_false t1
      obtain rfl : m = M := by omega
      clear hM
      go_wp2_with fail
      go_meet
      exact ⟨rfl, rfl⟩
  case rest =>
    obtain ⟨rfl, hcut⟩ := hcut
    subst hcut
    clear hM
    obtain ⟨w0, hw0⟩ : ∃ w0, w0 = wc := ⟨_, rfl⟩
    subst hw0
    go_wp2_with fail
    try rw [hw1]
    try rw [hX]
    clear hmk hw1 hX
    go_loopw [7, 8] (fun bb kk wr => ∃ i c : Nat, i ≤ M + 1 ∧ c ≤ 1 ∧ bb = .int .u64 (c : Int) ∧ kk = .int .i64 (i : Int) ∧ URow wr X (half (M + 1) z i) ∧ Turn [X] w1 wr ∧ z / 4294967296 ^ i = x / 4294967296 ^ i + y / 4294967296 ^ i + c) (fun _ kk _ => M + 1 - (intOf kk).toNat)
    case atStart => exact ⟨0, 0, by omega, by omega, rfl, rfl, H1.out.2.1, Turn.refl _ _, H1.out.2.2.2.2.2.2.2.2⟩
    case round =>
      obtain ⟨i, cb, hi, hcb, rfl, rfl, hR, hT, hst⟩ := hrel
      obtain ⟨hA, _, hb1, hX, hml, hB, hkl, hzl, _⟩ := H1.out
      have hbw : Below X w0 wr := by have := below_turn hb1 hT (fun t ht => by simp at ht; omega) hb1.size; rwa [hX] at this
      have hAr : RdC Try.eU wr A m (dB 4294967296 x) := hA.below (by rw [hX]; exact hbw)
      have hBr : RdC Try.eU wr B k (dB 4294967296 y) := hB.below (by rw [hX]; exact hbw)
      by_cases hlt : i ≤ M
      · have hlti : (i : Int) ≤ M := by omega
        have hltd : decide ((i : Int) ≤ (M : Int)) = true := decide_eq_true hlti
        have hi0 : ¬ ((i : Int) < 0) := by omega
        have hiM : (i : Int) < (M : Int) + 1 := by omega
        obtain ⟨s1', s2', s3'⟩ := add_step hst hcb
        obtain ⟨xi, hxi⟩ : ∃ xi, x / 4294967296 ^ i % 4294967296 = xi := ⟨_, rfl⟩
        have hxl : xi < 4294967296 := by rw [← hxi]; exact Nat.mod_lt _ (by omega)
        obtain ⟨yi, hyi⟩ : ∃ yi, y / 4294967296 ^ i % 4294967296 = yi := ⟨_, rfl⟩
        have hyl : yi < 4294967296 := by rw [← hyi]; exact Nat.mod_lt _ (by omega)
        have hdx := dig_or (n := x) (i := i) hml
        have hdy := dig_or (n := y) (i := i) hkl
        rw [hxi, hyi, ← pow_div_step, ← pow_div_step, ← pow_div_step] at s2'
        rw [hxi, hyi] at s1' s3'
        have sh := half_step (N := M + 1) (v := z) (i := i) (by omega)
        have fr := Row.frozen hR i
        have cp := hR.cell (q := i) (half_get (by omega))
        rw [show (((0 : UInt64).toNat : Nat) : Int) = 0 from rfl] at cp
        have hib : (i : Int) ≤ 1000 := by omega
        obtain ⟨S, hS⟩ : ∃ S, cb + xi + yi = S := ⟨_, rfl⟩
        have hSb : (S : Int) < 18446744073709551616 := by omega
        rw [hS] at s1' s2' s3'
        obtain ⟨zi, hzi⟩ : ∃ zi, S % 4294967296 = zi := ⟨_, rfl⟩
        obtain ⟨c2, hc2⟩ : ∃ c2, S / 4294967296 = c2 := ⟨_, rfl⟩
        have e1 : (S : Int) % 4294967296 = (zi : Int) := by omega
        have e2 : (S : Int) / 4294967296 = (c2 : Int) := by omega
        have hzb : (zi : Int) < 4294967296 := by omega
        have hR2 := hR.set i (UInt64.ofNat zi)
        rw [hzi] at s1'
        rw [hc2] at s2' s3'
        rw [s1', ← sh, ← s1', UInt64.toNat_ofNat', Nat.mod_eq_of_lt (show zi < 2 ^ 64 by omega)] at hR2
        have HS := Lib.hid (And.intro hR2 (And.intro hT (And.intro s2' s3')))
        have hSS : (cb : Int) + (xi : Int) + (yi : Int) = (S : Int) := by omega
        have hcbb : (cb : Int) ≤ 1 := by omega
        have hxb : (xi : Int) < 4294967296 := by omega
        have hyb : (yi : Int) < 4294967296 := by omega
        clear hR sh hst hR2 hT s1' s2' s3' hzi hc2 hA hb1 hX hml hB hkl hzl hbw
        rcases hdx with ⟨hik, dx⟩ | ⟨hik, dx⟩
        · have hiki : (i : Int) < m := by omega
          have hikd : decide ((i : Int) < (m : Int)) = true := decide_eq_true hiki
          rw [hxi] at dx
          obtain ⟨g, off, hAe, cx⟩ := limb_at hAr dx
          rw [UInt64.toNat_ofNat', Nat.mod_eq_of_lt (show xi < 2 ^ 64 by omega)] at cx
          subst hAe
          clear hxi dx
          rcases hdy with ⟨hjk, dy⟩ | ⟨hjk, dy⟩
          · have hjki : (i : Int) < k := by omega
            have hjkd : decide ((i : Int) < (k : Int)) = true := decide_eq_true hjki
            rw [hyi] at dy
            obtain ⟨g', off', hBe, cy⟩ := limb_at hBr dy
            rw [UInt64.toNat_ofNat', Nat.mod_eq_of_lt (show yi < 2 ^ 64 by omega)] at cy
            subst hBe
            clear hyi dy hAr hBr hS
            go_wp2_with fail
            go_roundw
            case measure => simp [intOf]; omega
            exact ⟨i + 1, c2, by omega, HS.out.2.2.2, by simp, by simp, HS.out.1, HS.out.2.1.setCell (.inl (by simp)) _, HS.out.2.2.1⟩
          · have hjki : ¬ (i : Int) < k := by omega
            have hjkd : decide ((i : Int) < (k : Int)) = false := decide_eq_false hjki
            obtain rfl : yi = 0 := by rw [← hyi, dy]
            simp only [Int.natCast_zero, Int.add_zero] at hSS
            clear hyi dy hAr hBr hS
            go_wp2_with fail
            go_roundw
            case measure => simp [intOf]; omega
            exact ⟨i + 1, c2, by omega, HS.out.2.2.2, by simp, by simp, HS.out.1, HS.out.2.1.setCell (.inl (by simp)) _, HS.out.2.2.1⟩
        · have hiki : ¬ (i : Int) < m := by omega
          have hikd : decide ((i : Int) < (m : Int)) = false := decide_eq_false hiki
          obtain rfl : xi = 0 := by rw [← hxi, dx]
          simp only [Int.natCast_zero, Int.add_zero] at hSS
          clear hxi dx
          rcases hdy with ⟨hjk, dy⟩ | ⟨hjk, dy⟩
          · have hjki : (i : Int) < k := by omega
            have hjkd : decide ((i : Int) < (k : Int)) = true := decide_eq_true hjki
            rw [hyi] at dy
            obtain ⟨g', off', hBe, cy⟩ := limb_at hBr dy
            rw [UInt64.toNat_ofNat', Nat.mod_eq_of_lt (show yi < 2 ^ 64 by omega)] at cy
            subst hBe
            clear hyi dy hAr hBr hS
            go_wp2_with fail
            go_roundw
            case measure => simp [intOf]; omega
            exact ⟨i + 1, c2, by omega, HS.out.2.2.2, by simp, by simp, HS.out.1, HS.out.2.1.setCell (.inl (by simp)) _, HS.out.2.2.1⟩
          · have hjki : ¬ (i : Int) < k := by omega
            have hjkd : decide ((i : Int) < (k : Int)) = false := decide_eq_false hjki
            obtain rfl : yi = 0 := by rw [← hyi, dy]
            simp only [Int.natCast_zero, Int.add_zero] at hSS
            clear hyi dy hAr hBr hS
            go_wp2_with fail
            go_roundw
            case measure => simp [intOf]; omega
            exact ⟨i + 1, c2, by omega, HS.out.2.2.2, by simp, by simp, HS.out.1, HS.out.2.1.setCell (.inl (by simp)) _, HS.out.2.2.1⟩
      · obtain rfl : i = M + 1 := by omega
        have hlti : ¬ ((M + 1 : Nat) : Int) ≤ M := by omega
        have hltd : decide (((M + 1 : Nat) : Int) ≤ (M : Int)) = false := decide_eq_false hlti
        rw [half_full] at hR
        have hrd := hR.rd
        rw [limbs32_len] at hrd
        have ht := rtrim_any (some ⟨X, 0, none⟩) (M + 1) (M + 1) _ wr hrd ⟨Nat.le_refl _, by unfold maxLen; omega⟩ (fun h => by cases h)
        obtain ⟨hle, hte⟩ := trimL_take (limbs32 (M + 1) z)
        have hrd2 := hrd.take (trimL (limbs32 (M + 1) z)).length (by rw [limbs32_len] at hle; exact hle)
        rw [← hte] at hrd2
        rw [trim_limbs32 hzl] at ht hrd2
        have HS := Lib.hid (And.intro hrd2 (And.intro hbw hX))
        clear hR hT hbw hrd hrd2 hle hte hAr hBr hst hA hb1 hX hml hB hkl hzl
        go_wp2_with fail
        refine ht.mono ?_
        rintro e w9 ⟨rfl, rfl⟩
        go_wp2_with fail
        go_ret
        have hX := HS.out.2.2
        exact ⟨_, _, rfl, ⟨HS.out.1, fun a ha => by injection ha with ha; subst ha; simp; omega, fun h => by cases h⟩, by rw [hX]; exact HS.out.2.1⟩
end Go.Proofs.Ytgkhhinjdojbhaa
