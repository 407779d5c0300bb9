/-
  Contracts of hashes.MGF1 and of the reference's: the mask.
-/
import Derived.Test.YtdlipoklhojjkaaDoorMade
import Derived.Test.YtdlipoklhojjkaaDoorShort
namespace Go.Proofs.YtdlipoklhojjkaaDoor
open Go.RowKit

/-- x[:k:k] -/
theorem slice_three (A : Option Addr) (m c k : Nat) (hA : ∀ ad, A = some ad → ad.spot = none) (hk : k ≤ c) (w : World) : (Instr.slice 22 (.slice A m c) none (some (.int .i64 (k : Int))) (some (.int .i64 (k : Int)))).run Tryd.prog w = .ok (.slice A k k) w := by
  obtain ⟨i, hi, hz⟩ : ∃ i, Tryd.prog.info? 5 = some i ∧ i.size = 1 := by
    cases h : Tryd.prog.info? 5 with
    | none => have := sz8; rw [h] at this; cases this
    | some i => exact ⟨i, rfl, by have := sz8; rw [h] at this; simpa using this⟩
  unfold Instr.slice
  simp [Sem.run_bind, run_underlying Tryd.underlying22 w, Instr.sliceBounds, Instr.sliceBound, asIntOf, sizeOf, typeInfo, hi, hz]
  rw [if_pos hk, addr_add0 A hA]
  simp
/-- Bytes as a result. -/
def RdRes (w : World) (l : List UInt8) (e : Ending) (w' : World) : Prop := ∃ A m c, e = .returned (.slice A m c) ∧ Rd w' A m c l ∧ Below w.heap.size w w'
theorem RowRes.rd {w w' : World} {l : List UInt8} {e : Ending} (h : RowRes w l e w') : RdRes w l e w' := by
  obtain ⟨A, m, c, he, ho, hb⟩ := h
  exact ⟨A, m, c, he, ho.rd, hb⟩
/-- The first k pieces of the mask. -/
def mgf (kind : Int) (seed : List UInt8) : Nat → List UInt8
  | 0 => []
  | k + 1 => mgf kind seed k ++ rof kind (seed ++ num4 (k : Int))
theorem num4_len (n : Int) : (num4 n).length = 4 := rfl
theorem mgf_len (kind : Int) (hk : 1 ≤ kind ∧ kind ≤ 5) (seed : List UInt8) (hs : seed.length ≤ 1000) (k : Nat) : (mgf kind seed k).length = k * (hsize kind).toNat := by
  induction k with
  | zero => simp [mgf]
  | succ k ih => rw [mgf, List.length_append, ih, rof_len kind hk _ (by rw [List.length_append, num4_len]; omega), Nat.add_mul]; omega
theorem mgf_more (kind : Int) (seed : List UInt8) (k j : Nat) : ∃ r, mgf kind seed (k + j) = mgf kind seed k ++ r := by
  induction j with
  | zero => exact ⟨[], by simp⟩
  | succ j ih =>
    obtain ⟨r, hr⟩ := ih
    exact ⟨r ++ rof kind (seed ++ num4 ((k + j : Nat) : Int)), by rw [← Nat.add_assoc, mgf, hr, List.append_assoc]⟩
/-- The mask of n bytes. -/
def mask (kind : Int) (seed : List UInt8) (n : Nat) : List UInt8 := (mgf kind seed n).take n
theorem mask_of (kind : Int) (seed : List UInt8) (n k : Nat) (hk : k ≤ n) (hn : n ≤ (mgf kind seed k).length) : mask kind seed n = (mgf kind seed k).take n := by
  obtain ⟨r, hr⟩ := mgf_more kind seed k (n - k)
  unfold mask
  rw [show n = k + (n - k) from by omega, hr, List.take_append_of_le_length (by omega)]
theorem hsize_pos (kind : Int) (hk : 1 ≤ kind ∧ kind ≤ 5) : 20 ≤ (hsize kind).toNat := by
  have hcase : kind = 1 ∨ kind = 2 ∨ kind = 3 ∨ kind = 4 ∨ kind = 5 := by omega
  rcases hcase with rfl | rfl | rfl | rfl | rfl <;> decide
theorem mgf_out1 (kind n : Int) (h : ¬ (1 ≤ kind ∧ kind ≤ 5) ∨ n < 1 ∨ 65536 < n) (v : Value) (w : World) :
    Calls Tryd.prog 26 #[.int .i64 kind, v, .int .i64 n] w fun e w' => e = .returned (.slice none 0 0) ∧ w = w' := by
  by_cases hk : 1 ≤ kind ∧ kind ≤ 5
  · have hz : (hsize kind == 0) = false := hsize_ne kind hk
    rcases h with h | h | h
    · exact absurd hk h
    · go_enter Tryd.func26, Tryd.ntmps26
      go_wp2_with (go_at_call 15; refine (size_any kind _).mono ?_; rintro e w' ⟨rfl, rfl⟩)
      go_ret
      exact ⟨rfl, rfl⟩
    · have h1 : ¬ (n < 1) := by omega
      go_enter Tryd.func26, Tryd.ntmps26
      go_wp2_with (go_at_call 15; refine (size_any kind _).mono ?_; rintro e w' ⟨rfl, rfl⟩)
      go_ret
      exact ⟨rfl, rfl⟩
  · have hz := hsize_none kind (by omega)
    go_enter Tryd.func26, Tryd.ntmps26
    go_wp2_with (go_at_call 15; refine (size_any kind _).mono ?_; rintro e w' ⟨rfl, rfl⟩; rw [hz])
    go_ret
    exact ⟨rfl, rfl⟩
theorem mgf_out2 (kind n : Int) (h : ¬ (1 ≤ kind ∧ kind ≤ 5) ∨ n < 1 ∨ 65536 < n) (v : Value) (w : World) :
    Calls Tryd.prog 27 #[.int .i64 kind, v, .int .i64 n] w fun e w' => e = .returned (.slice none 0 0) ∧ w = w' := by
  by_cases hk : 1 ≤ kind ∧ kind ≤ 5
  · have hz : (hsize kind == 0) = false := hsize_ne kind hk
    rcases h with h | h | h
    · exact absurd hk h
    · go_enter Tryd.func27, Tryd.ntmps27
      go_wp2_with (go_at_call 16; refine (rsize_any kind _).mono ?_; rintro e w' ⟨rfl, rfl⟩)
      go_ret
      exact ⟨rfl, rfl⟩
    · have h1 : ¬ (n < 1) := by omega
      go_enter Tryd.func27, Tryd.ntmps27
      go_wp2_with (go_at_call 16; refine (rsize_any kind _).mono ?_; rintro e w' ⟨rfl, rfl⟩)
      go_ret
      exact ⟨rfl, rfl⟩
  · have hz := hsize_none kind (by omega)
    go_enter Tryd.func27, Tryd.ntmps27
    go_wp2_with (go_at_call 16; refine (rsize_any kind _).mono ?_; rintro e w' ⟨rfl, rfl⟩; rw [hz])
    go_ret
    exact ⟨rfl, rfl⟩
set_option maxHeartbeats 1000000 in
theorem mgf_in1 (kind : Int) (hk : 1 ≤ kind ∧ kind ≤ 5) (n : Nat) (hn : 1 ≤ n) (hn2 : n ≤ 65536) (A : Option Addr) (m c : Nat) (seed : List UInt8) (w : World) (hr : Rd w A m c seed) (hs : seed.length ≤ 1000) (hK : KAt w) :
    Calls Tryd.prog 26 #[.int .i64 kind, .slice A m c, .int .i64 n] w (RdRes w (mask kind seed n)) := by
  have hz : (hsize kind == 0) = false := hsize_ne kind hk
  have hsz := hsize_pos kind hk
  have HL := Lib.hid (mgf_len kind hk seed hs)
  have HH := Lib.hid (And.intro hk (And.intro hr (And.intro hs (And.intro hK hsz))))
  have h1 : ¬ ((n : Int) < 1) := by omega
  have h2 : ¬ ((65536 : Int) < n) := by omega
  have hni : (n : Int) ≤ 65536 := by omega
  clear hk hr hs hK hsz hn
  go_enter Tryd.func26, Tryd.ntmps26
  go_wp2_with (go_at_call 15; refine (size_any kind _).mono ?_; rintro e w' ⟨rfl, rfl⟩)
  go_loopw [7, 8] (fun v i wr => ∃ (k : Nat) (A : Option Addr) (m c : Nat), k ≤ n ∧ i = .int .i64 k ∧ v = .slice A m c ∧ Own wr w.heap.size (.slice A m c) (mgf kind seed k) ∧ Below w.heap.size w wr) (fun _ i _ => n - (intOf i).toNat)
  case atStart => exact ⟨0, _, _, _, by omega, rfl, rfl, Own.nil _ _, Below.refl _ _⟩
  case round =>
    obtain ⟨k, A1, m1, c1, hk, rfl, rfl, hO, hB⟩ := hrel
    have hm1 := hO.len
    rw [HL.out k] at hm1
    have hki : (k : Int) ≤ 65536 := by omega
    have hk0 : (0 : Int) ≤ k := by omega
    have hge20 := HH.out.2.2.2.2
    have hm20 : k * 20 ≤ m1 := by rw [hm1]; exact Nat.mul_le_mul_left k hge20
    rcases Nat.lt_or_ge m1 n with hlt | hge
    · have hli : (m1 : Int) < n := by omega
      have hkn : k < n := by omega
      have H1 := Lib.hid (And.intro hO (And.intro hB (And.intro hm1 hkn)))
      clear hO hB hm1 hge20 hm20 hk hlt hkn
      go_wp2_with (go_at_call 42; refine (number_any (k : Int) _).mono ?_; rintro e w2 ⟨g2, c2, rfl, hO2, hb2⟩)
      have hrs := (HH.out.2.1.below H1.out.2.1).below hb2
      have hbl := Blk.new w2 22 #[.slice A m c, .slice (some ⟨g2, 0, none⟩) 4 c2]
      have hal : Below w2.heap.size w2 (w2.alloc (.cells #[.slice A m c, .slice (some ⟨g2, 0, none⟩) 4 c2] 22)) := (Below.refl _ _).alloc (Nat.le_refl _) _
      have hpp := rd_two hbl (hrs.below hal) (hO2.rd.below hal)
      have hb3 := hb2.trans (hal.mono hb2.size)
      refine (of_res kind HH.out.1 _ 2 2 [seed, num4 (k : Int)] _ hpp (by have := HH.out.2.2.1; simp [num4_len]; omega) ((HH.out.2.2.2.1.below H1.out.2.1).below hb3)).mono ?_
      rintro e w4 ⟨A4, n4, c4, rfl, hO4, hb4⟩
      rw [show ([seed, num4 (k : Int)] : List (List UInt8)).flatten = seed ++ num4 (k : Int) by simp] at hO4
      have hb5 := hb3.trans (hb4.mono hb3.size)
      have hln := rof_len kind HH.out.1 (seed ++ num4 (k : Int)) (by have := HH.out.2.2.1; rw [List.length_append, num4_len]; omega)
      have hl64 := hsize_le kind HH.out.1
      have H4 := Lib.hid (And.intro (H1.out.1.below hb5) (And.intro hO4.rd (And.intro (Nat.le_trans H1.out.2.1.size hb5.size) (And.intro (H1.out.2.1.trans (hb5.mono H1.out.2.1.size)) (And.intro hln hl64)))))
      clear hrs hbl hal hpp hb3 hO4 hb4 hb5 hO2 hb2 hln hl64
      go_wp2_with (at_builtin; go_must (refine wp_app2 (.tmp 26) (.tmp 32) w.heap.size _ (mgf kind seed k) H4.out.1 H4.out.2.2.1 A4 n4 c4 _ H4.out.2.1 (by rw [← H4.out.1.len]; have := H4.out.2.2.2.2.1; have := H4.out.2.2.2.2.2; omega) rfl rfl rfl rfl ?_; intro A5 n5 c5 w5 hn5 hG5))
      go_roundw
      case rel => exact ⟨k + 1, _, _, _, H1.out.2.2.2, by go_num, rfl, hG5.own, H4.out.2.2.2.1.trans hG5.below⟩
      case measure => have := H1.out.2.2.2; simp [intOf]; omega
    · have hli : ¬ ((m1 : Int) < n) := by omega
      have hms := mask_of kind seed n k hk (by rw [HL.out k, ← hm1]; exact hge)
      have hr1 := hO.rd
      have hsl := slice_three A1 m1 c1 n hr1.spot (Nat.le_trans hge hr1.2.1)
      have hfr : Rd wr A1 n n ((mgf kind seed k).take n) := by
        obtain ⟨q1, q2, q3, q4⟩ := hr1.front (k := n) hge
        exact ⟨q1, Nat.le_refl _, by omega, q4.imp (fun h => ⟨h.1, by omega⟩) id⟩
      rw [← hms] at hfr
      have H1 := Lib.hid (And.intro hfr hB)
      clear hO hB hm1 hge20 hm20 hk hge hms hr1 hfr
      go_wp2_with fail
      go_ret
      exact ⟨_, _, _, rfl, H1.out.1, H1.out.2⟩
set_option maxHeartbeats 1000000 in
theorem mgf_in2 (kind : Int) (hk : 1 ≤ kind ∧ kind ≤ 5) (n : Nat) (hn : 1 ≤ n) (hn2 : n ≤ 65536) (A : Option Addr) (m c : Nat) (seed : List UInt8) (w : World) (hr : Rd w A m c seed) (hs : seed.length ≤ 1000) :
    Calls Tryd.prog 27 #[.int .i64 kind, .slice A m c, .int .i64 n] w (RdRes w (mask kind seed n)) := by
  have hz : (hsize kind == 0) = false := hsize_ne kind hk
  have hsz := hsize_pos kind hk
  have HL := Lib.hid (mgf_len kind hk seed hs)
  have HH := Lib.hid (And.intro hk (And.intro hr (And.intro hs hsz)))
  have h1 : ¬ ((n : Int) < 1) := by omega
  have h2 : ¬ ((65536 : Int) < n) := by omega
  have hni : (n : Int) ≤ 65536 := by omega
  clear hk hr hs hsz hn
  go_enter Tryd.func27, Tryd.ntmps27
  go_wp2_with (go_at_call 16; refine (rsize_any kind _).mono ?_; rintro e w' ⟨rfl, rfl⟩)
  go_loopw [8, 9] (fun v i wr => ∃ (k : Nat) (A : Option Addr) (m c : Nat), k ≤ n ∧ i = .int .i64 k ∧ v = .slice A m c ∧ Own wr w.heap.size (.slice A m c) (mgf kind seed k) ∧ Below w.heap.size w wr) (fun _ i _ => n - (intOf i).toNat)
  case atStart => exact ⟨0, _, _, _, by omega, rfl, rfl, Own.nil _ _, Below.refl _ _⟩
  case round =>
    obtain ⟨k, A1, m1, c1, hk, rfl, rfl, hO, hB⟩ := hrel
    have hm1 := hO.len
    rw [HL.out k] at hm1
    have hki : (k : Int) ≤ 65536 := by omega
    have hk0 : (0 : Int) ≤ k := by omega
    have hge20 := HH.out.2.2.2
    have hm20 : k * 20 ≤ m1 := by rw [hm1]; exact Nat.mul_le_mul_left k hge20
    rcases Nat.lt_or_ge m1 n with hlt | hge
    · have hli : (m1 : Int) < n := by omega
      have hkn : k < n := by omega
      have H1 := Lib.hid (And.intro hO (And.intro hB (And.intro hm1 hkn)))
      have HF := Lib.hid (four_any (k : Int) wr hk0 (by omega))
      clear hO hB hm1 hge20 hm20 hk hlt hkn
      go_wp2_with (go_at_call 43; refine HF.out.mono ?_; rintro e w2 ⟨rfl, hO2, hb2⟩)
      have hrs := (HH.out.2.1.below H1.out.2.1).below hb2
      have hbl := Blk.new w2 22 #[.slice A m c, .slice (some ⟨wr.heap.size, 0, none⟩) 4 4]
      have hal : Below w2.heap.size w2 (w2.alloc (.cells #[.slice A m c, .slice (some ⟨wr.heap.size, 0, none⟩) 4 4] 22)) := (Below.refl _ _).alloc (Nat.le_refl _) _
      have hpp := rd_two hbl (hrs.below hal) (hO2.rd.below hal)
      have hb3 := hb2.trans (hal.mono hb2.size)
      have hfl : ([seed, num4 (k : Int)] : List (List UInt8)).flatten = seed ++ num4 (k : Int) := by simp
      have hll : (seed ++ num4 (k : Int)).length ≤ 1004 := by have := HH.out.2.2.1; rw [List.length_append, num4_len]; omega
      go_wp2_with fail
      refine (join_any _ 2 2 [seed, num4 (k : Int)] _ hpp (by rw [hfl]; omega)).mono ?_
      rintro e w4 ⟨v4, rfl, hO4, hb4⟩
      obtain ⟨A4, n4, c4, rfl, hr4⟩ : ∃ A n c, v4 = .slice A n c ∧ Rd w4 A n c (seed ++ num4 (k : Int)) := by
        obtain ⟨A, c, he, hr, _⟩ := hO4.shape
        rw [hfl] at he hr
        exact ⟨_, _, _, he, hr⟩
      have hb5 := hb3.trans (hb4.mono hb3.size)
      have hln := rof_len kind HH.out.1 (seed ++ num4 (k : Int)) (by omega)
      have hl64 := hsize_le kind HH.out.1
      have H4 := Lib.hid (And.intro (H1.out.1.below hb5) (And.intro hr4 (And.intro hb5 (And.intro hln (And.intro hl64 hll)))))
      clear hrs hbl hal hpp hb3 hfl hO4 hb4 hb5 hO2 hb2 hln hl64 hll HF
      go_wp2_with fail
      refine (rof_any kind HH.out.1 A4 n4 c4 _ w4 H4.out.2.1 (by have := H4.out.2.2.2.2.2; omega)).mono ?_
      rintro e w6 ⟨A6, n6, c6, rfl, hO6, hb6⟩
      have hb7 := H4.out.2.2.1.trans (hb6.mono H4.out.2.2.1.size)
      have H6 := Lib.hid (And.intro (H1.out.1.below hb7) (And.intro hO6.rd (And.intro (Nat.le_trans H1.out.2.1.size hb7.size) (H1.out.2.1.trans (hb7.mono H1.out.2.1.size)))))
      clear hO6 hb6 hb7
      go_wp2_with (at_builtin; go_must (refine wp_app2 (.tmp 38) (.tmp 39) w.heap.size _ (mgf kind seed k) H6.out.1 H6.out.2.2.1 A6 n6 c6 _ H6.out.2.1 (by rw [← H6.out.1.len]; have := H4.out.2.2.2.1; have := H4.out.2.2.2.2.1; omega) rfl rfl rfl rfl ?_; intro A8 n8 c8 w8 hn8 hG8))
      go_roundw
      case rel => exact ⟨k + 1, _, _, _, H1.out.2.2.2, by go_num, rfl, hG8.own, H6.out.2.2.2.trans hG8.below⟩
      case measure => have := H1.out.2.2.2; simp [intOf]; omega
    · have hli : ¬ ((m1 : Int) < n) := by omega
      have hms := mask_of kind seed n k hk (by rw [HL.out k, ← hm1]; exact hge)
      have hr1 := hO.rd
      have hsl := slice_to A1 m1 c1 n hr1.spot (Nat.le_trans hge hr1.2.1)
      have hfr : Rd wr A1 n c1 ((mgf kind seed k).take n) := hr1.front (k := n) hge
      rw [← hms] at hfr
      have H1 := Lib.hid (And.intro hfr hB)
      clear hO hB hm1 hge20 hm20 hk hge hms hr1 hfr
      go_wp2_with fail
      go_ret
      exact ⟨_, _, _, rfl, H1.out.1, H1.out.2⟩
end Go.Proofs.YtdlipoklhojjkaaDoor
