/-
  PBKDF2 (program's and reference's) at what may not be: nothing; and both for every argument.
-/
import Derived.Test.YtdlipoklhojjkaaDoorPb2
namespace Go.Proofs.YtdlipoklhojjkaaDoor
open Go.RowKit

theorem pb_out_a (R n SZ : Nat) (hS : 20 ≤ SZ ∧ SZ ≤ 64) (hR : 1 ≤ R ∧ R ≤ 65536) (hn : 1 ≤ n ∧ n ≤ 65536) (hq : ¬ (R * ((n + SZ - 1) / SZ) ≤ 65536)) : ∃ q : Nat, ((n : Int) + SZ - 1) / SZ = (q : Int) ∧ IntKind.i64.wrap ((R : Int) * q) = (R : Int) * q ∧ (65536 : Int) < (R : Int) * q := by
  obtain ⟨q, hqe⟩ : ∃ q, (n + SZ - 1) / SZ = q := ⟨_, rfl⟩
  have hq2 : q ≤ 65536 := by
    rw [← hqe]
    refine Nat.le_trans (Nat.div_le_div_left (show 20 ≤ SZ by omega) (by omega)) ?_
    omega
  rw [hqe] at hq
  have h2 : R * q ≤ 65536 * 65536 := Nat.mul_le_mul hR.2 hq2
  have h : (65536 : Int) < (R : Int) * (q : Int) := by
    have h1 := Int.ofNat_lt.2 (Nat.lt_of_not_le hq)
    rw [Int.natCast_mul] at h1
    exact h1
  have h0 : (R : Int) * (q : Int) ≤ 4294967296 := by
    have h1 := Int.ofNat_le.2 h2
    rw [Int.natCast_mul] at h1
    exact h1
  generalize hp : (R : Int) * (q : Int) = p at *
  refine ⟨q, ?_, ?_, ?_⟩
  · rw [← hqe, show ((n : Int) + SZ - 1) = ((n + SZ - 1 : Nat) : Int) by omega]; rfl
  · rw [hp]; exact IntWalk.i64_in _ (by omega)
  · rw [hp]; exact h
theorem pb_out_b (R n SZ : Nat) (hS : 20 ≤ SZ ∧ SZ ≤ 64) (hR : 1 ≤ R ∧ R ≤ 65536) (hn : 1 ≤ n ∧ n ≤ 65536) (hq : ¬ (R * ((n + SZ - 1) / SZ) ≤ 65536)) : ∃ q p : Nat, ((n : Int) + SZ - 1) / SZ = (q : Int) ∧ (65536 : Int) / (R : Int) = (p : Int) ∧ p < q := by
  obtain ⟨q, hqe⟩ : ∃ q, (n + SZ - 1) / SZ = q := ⟨_, rfl⟩
  rw [hqe] at hq
  refine ⟨q, 65536 / R, ?_, rfl, ?_⟩
  · rw [← hqe, show ((n : Int) + SZ - 1) = ((n + SZ - 1 : Nat) : Int) by omega]; rfl
  · rw [← Nat.not_le, Nat.le_div_iff_mul_le (by omega), Nat.mul_comm]; exact hq
def PbIn (kind R n : Int) : Prop := (1 ≤ kind ∧ kind ≤ 5) ∧ (1 ≤ R ∧ R ≤ 65536) ∧ (1 ≤ n ∧ n ≤ 65536) ∧ R.toNat * ((n.toNat + (hsize kind).toNat - 1) / (hsize kind).toNat) ≤ 65536
instance (kind R n : Int) : Decidable (PbIn kind R n) := by unfold PbIn; infer_instance
set_option maxRecDepth 100000 in
set_option maxHeartbeats 4000000 in
theorem pb_out1 (kind R n : Int) (h : ¬ PbIn kind R n) (v1 v2 : Value) (w : World) :
    Calls Tryd.prog 28 #[.int .i64 kind, v1, v2, .int .i64 R, .int .i64 n] w fun e w' => e = .returned (.slice none 0 0) ∧ Old w w' := by
  have HSz := Lib.hid (size_any kind)
  by_cases hk : 1 ≤ kind ∧ kind ≤ 5
  · have hz : (hsize kind == 0) = false := hsize_ne kind hk
    have hsz := hsize_pos kind hk
    have hsz2 := hsize_le kind hk
    by_cases h1 : R < 1
    · have h1' : decide (R < 1) = true := decide_eq_true h1
      clear h hsz hsz2
      go_enter Tryd.func28, Tryd.ntmps28
      go_wp2_with (go_at_call 15; refine (HSz.out _).mono ?_; rintro e w' ⟨rfl, rfl⟩)
      go_ret
      exact ⟨rfl, Old.refl _⟩
    have h1' : decide (R < 1) = false := decide_eq_false h1
    by_cases h2 : 65536 < R
    · have h2' : decide (65536 < R) = true := decide_eq_true h2
      clear h hsz hsz2
      go_enter Tryd.func28, Tryd.ntmps28
      go_wp2_with (go_at_call 15; refine (HSz.out _).mono ?_; rintro e w' ⟨rfl, rfl⟩)
      go_ret
      exact ⟨rfl, Old.refl _⟩
    have h2' : decide (65536 < R) = false := decide_eq_false h2
    by_cases h3 : n < 1
    · have h3' : decide (n < 1) = true := decide_eq_true h3
      clear h hsz hsz2
      go_enter Tryd.func28, Tryd.ntmps28
      go_wp2_with (go_at_call 15; refine (HSz.out _).mono ?_; rintro e w' ⟨rfl, rfl⟩)
      go_ret
      exact ⟨rfl, Old.refl _⟩
    have h3' : decide (n < 1) = false := decide_eq_false h3
    by_cases h4 : 65536 < n
    · have h4' : decide (65536 < n) = true := decide_eq_true h4
      clear h hsz hsz2
      go_enter Tryd.func28, Tryd.ntmps28
      go_wp2_with (go_at_call 15; refine (HSz.out _).mono ?_; rintro e w' ⟨rfl, rfl⟩)
      go_ret
      exact ⟨rfl, Old.refl _⟩
    have h4' : decide (65536 < n) = false := decide_eq_false h4
    obtain ⟨R, rfl⟩ := Int.eq_ofNat_of_zero_le (show 0 ≤ R by omega)
    obtain ⟨n, rfl⟩ := Int.eq_ofNat_of_zero_le (show 0 ≤ n by omega)
    have hq : ¬ (R * ((n + (hsize kind).toNat - 1) / (hsize kind).toNat) ≤ 65536) := fun hq => h ⟨hk, by omega, by omega, by simpa using hq⟩
    have hpos : hsize kind = (((hsize kind).toNat : Nat) : Int) := by rw [Int.toNat_of_nonneg (by omega)]
    rw [hpos] at HSz hz
    clear h hpos
    generalize (hsize kind).toNat = SZ at *
    have hni : (n : Int) ≤ 65536 := by omega
    have hSi : (SZ : Int) ≤ 64 := by omega
    have hsum : IntKind.i64.wrap ((n : Int) + SZ) = (n : Int) + SZ := IntWalk.i64_in _ (by omega)
    have hsub : IntKind.i64.wrap ((n : Int) + SZ - 1) = (n : Int) + SZ - 1 := IntWalk.i64_in _ (by omega)
    obtain ⟨q, hq1, hq2, hq3⟩ := pb_out_a R n SZ ⟨hsz, hsz2⟩ (by omega) (by omega) hq
    have h5 : decide ((65536 : Int) < (R : Int) * q) = true := decide_eq_true hq3
    clear hq3 hq
    go_enter Tryd.func28, Tryd.ntmps28
    go_wp2_with (go_at_call 15; refine (HSz.out _).mono ?_; rintro e w' ⟨rfl, rfl⟩)
    go_ret
    exact ⟨rfl, Old.refl _⟩
  · have hz := hsize_none kind (by omega)
    rw [hz] at HSz
    clear h
    go_enter Tryd.func28, Tryd.ntmps28
    go_wp2_with (go_at_call 15; refine (HSz.out _).mono ?_; rintro e w' ⟨rfl, rfl⟩)
    go_ret
    exact ⟨rfl, Old.refl _⟩
set_option maxRecDepth 100000 in
set_option maxHeartbeats 4000000 in
theorem pb_out2 (kind R n : Int) (h : ¬ PbIn kind R n) (v1 v2 : Value) (w : World) :
    Calls Tryd.prog 29 #[.int .i64 kind, v1, v2, .int .i64 R, .int .i64 n] w fun e w' => e = .returned (.slice none 0 0) ∧ Old w w' := by
  have HSz := Lib.hid (rsize_any kind)
  by_cases hk : 1 ≤ kind ∧ kind ≤ 5
  · have hz : (hsize kind == 0) = false := hsize_ne kind hk
    have hsz := hsize_pos kind hk
    have hsz2 := hsize_le kind hk
    by_cases h1 : R < 1
    · have h1' : decide (R < 1) = true := decide_eq_true h1
      clear h hsz hsz2
      go_enter Tryd.func29, Tryd.ntmps29
      go_wp2_with (go_at_call 16; refine (HSz.out _).mono ?_; rintro e w' ⟨rfl, rfl⟩)
      go_quiet (fail)
      have ho0 : Old w (w.drewN nq) := (Old.refl w).drewN nq
      generalize w.drewN nq = w0 at *
      simp only [Exit.then]
      go_wp2_with fail
      go_ret
      exact ⟨rfl, ho0⟩
    have h1' : decide (R < 1) = false := decide_eq_false h1
    by_cases h2 : 65536 < R
    · have h2' : decide (65536 < R) = true := decide_eq_true h2
      clear h hsz hsz2
      go_enter Tryd.func29, Tryd.ntmps29
      go_wp2_with (go_at_call 16; refine (HSz.out _).mono ?_; rintro e w' ⟨rfl, rfl⟩)
      go_quiet (fail)
      have ho0 : Old w (w.drewN nq) := (Old.refl w).drewN nq
      generalize w.drewN nq = w0 at *
      simp only [Exit.then]
      go_wp2_with fail
      go_ret
      exact ⟨rfl, ho0⟩
    have h2' : decide (65536 < R) = false := decide_eq_false h2
    by_cases h3 : n < 1
    · have h3' : decide (n < 1) = true := decide_eq_true h3
      clear h hsz hsz2
      go_enter Tryd.func29, Tryd.ntmps29
      go_wp2_with (go_at_call 16; refine (HSz.out _).mono ?_; rintro e w' ⟨rfl, rfl⟩)
      go_quiet (fail)
      have ho0 : Old w (w.drewN nq) := (Old.refl w).drewN nq
      generalize w.drewN nq = w0 at *
      simp only [Exit.then]
      go_wp2_with fail
      go_ret
      exact ⟨rfl, ho0⟩
    have h3' : decide (n < 1) = false := decide_eq_false h3
    by_cases h4 : 65536 < n
    · have h4' : decide (65536 < n) = true := decide_eq_true h4
      clear h hsz hsz2
      go_enter Tryd.func29, Tryd.ntmps29
      go_wp2_with (go_at_call 16; refine (HSz.out _).mono ?_; rintro e w' ⟨rfl, rfl⟩)
      go_quiet (fail)
      have ho0 : Old w (w.drewN nq) := (Old.refl w).drewN nq
      generalize w.drewN nq = w0 at *
      simp only [Exit.then]
      go_wp2_with fail
      go_ret
      exact ⟨rfl, ho0⟩
    have h4' : decide (65536 < n) = false := decide_eq_false h4
    obtain ⟨R, rfl⟩ := Int.eq_ofNat_of_zero_le (show 0 ≤ R by omega)
    obtain ⟨n, rfl⟩ := Int.eq_ofNat_of_zero_le (show 0 ≤ n by omega)
    have hq : ¬ (R * ((n + (hsize kind).toNat - 1) / (hsize kind).toNat) ≤ 65536) := fun hq => h ⟨hk, by omega, by omega, by simpa using hq⟩
    have hpos : hsize kind = (((hsize kind).toNat : Nat) : Int) := by rw [Int.toNat_of_nonneg (by omega)]
    rw [hpos] at HSz hz
    clear h hpos
    generalize (hsize kind).toNat = SZ at *
    have hni : (n : Int) ≤ 65536 := by omega
    have hSi : (SZ : Int) ≤ 64 := by omega
    have hsum : IntKind.i64.wrap ((n : Int) + SZ) = (n : Int) + SZ := IntWalk.i64_in _ (by omega)
    have hsub : IntKind.i64.wrap ((n : Int) + SZ - 1) = (n : Int) + SZ - 1 := IntWalk.i64_in _ (by omega)
    obtain ⟨q, p, hq1, hq2, hq3⟩ := pb_out_b R n SZ ⟨hsz, hsz2⟩ (by omega) (by omega) hq
    have h5 : decide (p < q) = true := decide_eq_true hq3
    clear hq3 hq
    go_enter Tryd.func29, Tryd.ntmps29
    go_wp2_with (go_at_call 16; refine (HSz.out _).mono ?_; rintro e w' ⟨rfl, rfl⟩)
    go_quiet (fail)
    have ho0 : Old w (w.drewN nq) := (Old.refl w).drewN nq
    generalize w.drewN nq = w0 at *
    simp only [Exit.then]
    go_wp2_with fail
    go_ret
    exact ⟨rfl, ho0⟩
  · have hz := hsize_none kind (by omega)
    rw [hz] at HSz
    clear h
    go_enter Tryd.func29, Tryd.ntmps29
    go_wp2_with (go_at_call 16; refine (HSz.out _).mono ?_; rintro e w' ⟨rfl, rfl⟩)
    go_quiet (fail)
    have ho0 : Old w (w.drewN nq) := (Old.refl w).drewN nq
    generalize w.drewN nq = w0 at *
    simp only [Exit.then]
    go_wp2_with fail
    go_ret
    exact ⟨rfl, ho0⟩
def pkeyAll (kind : Int) (pin salt : List UInt8) (R n : Int) : List UInt8 := if PbIn kind R n then pkey kind pin salt R.toNat n.toNat else []
theorem pb_all1 (kind R n : Int) (A : Option Addr) (m c : Nat) (pin : List UInt8) (A2 : Option Addr) (m2 c2 : Nat) (salt : List UInt8) (w : World) (hr : Rd w A m c pin) (hp : pin.length ≤ 1000) (hr2 : Rd w A2 m2 c2 salt) (hs : salt.length ≤ 1000) (hK : KAt w) :
    Calls Tryd.prog 28 #[.int .i64 kind, .slice A m c, .slice A2 m2 c2, .int .i64 R, .int .i64 n] w (RdRes w (pkeyAll kind pin salt R n)) := by
  by_cases h : PbIn kind R n
  · unfold pkeyAll; rw [if_pos h]
    obtain ⟨hk, hR, hn, hq⟩ := h
    obtain ⟨R, rfl⟩ := Int.eq_ofNat_of_zero_le (show 0 ≤ R by omega)
    obtain ⟨n, rfl⟩ := Int.eq_ofNat_of_zero_le (show 0 ≤ n by omega)
    rw [Int.toNat_natCast, Int.toNat_natCast] at *
    exact pb_in1 kind hk R n (by omega) (by omega) hq A m c pin A2 m2 c2 salt w hr hp hr2 hs hK
  · unfold pkeyAll; rw [if_neg h]
    refine (pb_out1 kind R n h _ _ w).mono ?_
    rintro e w' ⟨rfl, hb⟩
    exact ⟨none, 0, 0, rfl, Rd.nil _, hb⟩
theorem pb_all2 (kind R n : Int) (A : Option Addr) (m c : Nat) (pin : List UInt8) (A2 : Option Addr) (m2 c2 : Nat) (salt : List UInt8) (w : World) (hr : Rd w A m c pin) (hp : pin.length ≤ 1000) (hr2 : Rd w A2 m2 c2 salt) (hs : salt.length ≤ 1000) :
    Calls Tryd.prog 29 #[.int .i64 kind, .slice A m c, .slice A2 m2 c2, .int .i64 R, .int .i64 n] w (RdRes w (pkeyAll kind pin salt R n)) := by
  by_cases h : PbIn kind R n
  · unfold pkeyAll; rw [if_pos h]
    obtain ⟨hk, hR, hn, hq⟩ := h
    obtain ⟨R, rfl⟩ := Int.eq_ofNat_of_zero_le (show 0 ≤ R by omega)
    obtain ⟨n, rfl⟩ := Int.eq_ofNat_of_zero_le (show 0 ≤ n by omega)
    rw [Int.toNat_natCast, Int.toNat_natCast] at *
    exact pb_in2 kind hk R n (by omega) (by omega) hq A m c pin A2 m2 c2 salt w hr hp hr2 hs
  · unfold pkeyAll; rw [if_neg h]
    refine (pb_out2 kind R n h _ _ w).mono ?_
    rintro e w' ⟨rfl, hb⟩
    exact ⟨none, 0, 0, rfl, Rd.nil _, hb⟩
end Go.Proofs.YtdlipoklhojjkaaDoor
