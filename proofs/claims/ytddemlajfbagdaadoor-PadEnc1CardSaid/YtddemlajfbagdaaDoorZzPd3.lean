/-
  Contracts of hashes.MGF1 and of the reference's: the mask.
  Contract of baileylaw3.begun: one hash is told.
  What a law's statement gives its walk: the arguments as values; the arguments read behind the call as they did. Over any law of this seat.
  The law HashMGF1, walked: the mask is the reference's.
  Pad: the mask.
-/
import Derived.Test.YtddemlajfbagdaaDoorZzMade
import Derived.Test.YtddemlajfbagdaaDoorZzRot
import Derived.Lib.SlBytesConst
import Derived.Test.YtddemlajfbagdaaDoorZzApp2
import Derived.Test.YtddemlajfbagdaaDoorRows
import Derived.ProofKit
import Derived.LaidMore
import Derived.OpenShut
import Derived.Carry
import Derived.Stop.Joined
import Derived.Test.YtddemlajfbagdaaDoorZzPd2
namespace Go.Proofs.YtddemlajfbagdaaDoor
open Go.RowKit

/-- x[:k:k] -/
theorem slice_three (A : Option Addr) (m c k : Nat) (hA : ∀ ad, A = some ad → ad.spot = none) (hk : k ≤ c) (w : World) : (Instr.slice 22 (.slice A m c) none (some (.int .i64 (k : Int))) (some (.int .i64 (k : Int)))).run Tryd.prog w = .ok (.slice A k k) w := by
  obtain ⟨i, hi, hz⟩ : ∃ i, Tryd.prog.info? 5 = some i ∧ i.size = 1 := by
    cases h : Tryd.prog.info? 5 with
    | none => have := sz8; rw [h] at this; cases this
    | some i => exact ⟨i, rfl, by have := sz8; rw [h] at this; simpa using this⟩
  unfold Instr.slice
  simp [Sem.run_bind, run_underlying Tryd.underlying22 w, Instr.sliceBounds, Instr.sliceBound, asIntOf, sizeOf, typeInfo, hi]
  rw [if_pos hk, addr_add0 A hA]
  simp
/-- Bytes as a result. -/
def RdRes (w : World) (l : List UInt8) (e : Ending) (w' : World) : Prop := ∃ A m c, e = .returned (.slice A m c) ∧ Rd w' A m c l ∧ Below w.heap.size w w'
/-- A row that lies anew. -/
def RdNew (w : World) (l : List UInt8) (e : Ending) (w' : World) : Prop := ∃ A m c, e = .returned (.slice A m c) ∧ Rd w' A m c l ∧ (∀ ad, A = some ad → w.heap.size ≤ ad.block) ∧ Below w.heap.size w w'
theorem RowRes.rd {w w' : World} {l : List UInt8} {e : Ending} (h : RowRes w l e w') : RdRes w l e w' := by
  obtain ⟨A, m, c, he, ho, hb⟩ := h
  exact ⟨A, m, c, he, ho.rd, hb⟩
/-- The first k pieces of the mask. -/
def mgf (kind : Int) (seed : List UInt8) : Nat → List UInt8
  | 0 => []
  | k + 1 => mgf kind seed k ++ rof kind (seed ++ num4 (k : Int))
theorem num4_len (n : Int) : (num4 n).length = 4 := rfl
theorem mgf_len (kind : Int) (hk : 1 ≤ kind ∧ kind ≤ 5) (seed : List UInt8) (hs : seed.length ≤ 1000) (k : Nat) : (mgf kind seed k).length = k * (hsize kind).toNat := by
  induction k with
  | zero => simp [mgf]
  | succ k ih => rw [mgf, List.length_append, ih, rof_len kind hk _ (by rw [List.length_append, num4_len]; omega), Nat.add_mul]; omega
theorem mgf_more (kind : Int) (seed : List UInt8) (k j : Nat) : ∃ r, mgf kind seed (k + j) = mgf kind seed k ++ r := by
  induction j with
  | zero => exact ⟨[], by simp⟩
  | succ j ih =>
    obtain ⟨r, hr⟩ := ih
    exact ⟨r ++ rof kind (seed ++ num4 ((k + j : Nat) : Int)), by rw [← Nat.add_assoc, mgf, hr, List.append_assoc]⟩
/-- The mask of n bytes. -/
def mask (kind : Int) (seed : List UInt8) (n : Nat) : List UInt8 := (mgf kind seed n).take n
theorem mask_of (kind : Int) (seed : List UInt8) (n k : Nat) (hk : k ≤ n) (hn : n ≤ (mgf kind seed k).length) : mask kind seed n = (mgf kind seed k).take n := by
  obtain ⟨r, hr⟩ := mgf_more kind seed k (n - k)
  unfold mask
  rw [show n = k + (n - k) from by omega, hr, List.take_append_of_le_length (by omega)]
theorem hsize_pos (kind : Int) (hk : 1 ≤ kind ∧ kind ≤ 5) : 20 ≤ (hsize kind).toNat := by
  have hcase : kind = 1 ∨ kind = 2 ∨ kind = 3 ∨ kind = 4 ∨ kind = 5 := by omega
  rcases hcase with rfl | rfl | rfl | rfl | rfl <;> decide
theorem mgf_out1 (kind n : Int) (h : ¬ (1 ≤ kind ∧ kind ≤ 5) ∨ n < 1 ∨ 65536 < n) (v : Value) (w : World) :
    Calls Tryd.prog 52 #[.int .i64 kind, v, .int .i64 n] w fun e w' => e = .returned (.slice none 0 0) ∧ w = w' := by
  by_cases hk : 1 ≤ kind ∧ kind ≤ 5
  · have hz : (hsize kind == 0) = false := hsize_ne kind hk
    rcases h with h | h | h
    · exact absurd hk h
    · go_enter Tryd.func52, Tryd.ntmps52
      go_wp2_with (go_at_call 29; refine (size_any kind _).mono ?_; rintro e w' ⟨rfl, rfl⟩)
      go_ret
      exact ⟨rfl, rfl⟩
    · have h1 : ¬ (n < 1) := by omega
      go_enter Tryd.func52, Tryd.ntmps52
      go_wp2_with (go_at_call 29; refine (size_any kind _).mono ?_; rintro e w' ⟨rfl, rfl⟩)
      go_ret
      exact ⟨rfl, rfl⟩
  · have hz := hsize_none kind (by omega)
    go_enter Tryd.func52, Tryd.ntmps52
    go_wp2_with (go_at_call 29; refine (size_any kind _).mono ?_; rintro e w' ⟨rfl, rfl⟩; rw [hz])
    go_ret
    exact ⟨rfl, rfl⟩
theorem mgf_out2 (kind n : Int) (h : ¬ (1 ≤ kind ∧ kind ≤ 5) ∨ n < 1 ∨ 65536 < n) (v : Value) (w : World) :
    Calls Tryd.prog 38 #[.int .i64 kind, v, .int .i64 n] w fun e w' => e = .returned (.slice none 0 0) ∧ w = w' := by
  by_cases hk : 1 ≤ kind ∧ kind ≤ 5
  · have hz : (hsize kind == 0) = false := hsize_ne kind hk
    rcases h with h | h | h
    · exact absurd hk h
    · go_enter Tryd.func38, Tryd.ntmps38
      go_wp2_with (go_at_call 32; refine (rsize_any kind _).mono ?_; rintro e w' ⟨rfl, rfl⟩)
      go_ret
      exact ⟨rfl, rfl⟩
    · have h1 : ¬ (n < 1) := by omega
      go_enter Tryd.func38, Tryd.ntmps38
      go_wp2_with (go_at_call 32; refine (rsize_any kind _).mono ?_; rintro e w' ⟨rfl, rfl⟩)
      go_ret
      exact ⟨rfl, rfl⟩
  · have hz := hsize_none kind (by omega)
    go_enter Tryd.func38, Tryd.ntmps38
    go_wp2_with (go_at_call 32; refine (rsize_any kind _).mono ?_; rintro e w' ⟨rfl, rfl⟩; rw [hz])
    go_ret
    exact ⟨rfl, rfl⟩
set_option maxHeartbeats 1000000 in
theorem mgf_in1n (kind : Int) (hk : 1 ≤ kind ∧ kind ≤ 5) (n : Nat) (hn : 1 ≤ n) (hn2 : n ≤ 65536) (A : Option Addr) (m c : Nat) (seed : List UInt8) (w : World) (hr : Rd w A m c seed) (hs : seed.length ≤ 1000) (hK : KAt w) :
    Calls Tryd.prog 52 #[.int .i64 kind, .slice A m c, .int .i64 n] w (RdNew w (mask kind seed n)) := by
  have hz : (hsize kind == 0) = false := hsize_ne kind hk
  have hsz := hsize_pos kind hk
  have HL := Lib.hid (mgf_len kind hk seed hs)
  have HH := Lib.hid (And.intro hk (And.intro hr (And.intro hs (And.intro hK hsz))))
  have h1 : ¬ ((n : Int) < 1) := by omega
  have h2 : ¬ ((65536 : Int) < n) := by omega
  have hni : (n : Int) ≤ 65536 := by omega
  clear hk hr hs hK hsz hn
  go_enter Tryd.func52, Tryd.ntmps52
  go_wp2_with (go_at_call 29; refine (size_any kind _).mono ?_; rintro e w' ⟨rfl, rfl⟩)
  go_loopw [7, 8] (fun v i wr => ∃ (k : Nat) (A : Option Addr) (m c : Nat), k ≤ n ∧ i = .int .i64 k ∧ v = .slice A m c ∧ Own wr w.heap.size (.slice A m c) (mgf kind seed k) ∧ Below w.heap.size w wr) (fun _ i _ => n - (intOf i).toNat)
  case atStart => exact ⟨0, _, _, _, by omega, rfl, rfl, Own.nil _ _, Below.refl _ _⟩
  case round =>
    obtain ⟨k, A1, m1, c1, hk, rfl, rfl, hO, hB⟩ := hrel
    have hm1 := hO.len
    rw [HL.out k] at hm1
    have hki : (k : Int) ≤ 65536 := by omega
    have hk0 : (0 : Int) ≤ k := by omega
    have hge20 := HH.out.2.2.2.2
    have hm20 : k * 20 ≤ m1 := by rw [hm1]; exact Nat.mul_le_mul_left k hge20
    rcases Nat.lt_or_ge m1 n with hlt | hge
    · have hli : (m1 : Int) < n := by omega
      have hkn : k < n := by omega
      have H1 := Lib.hid (And.intro hO (And.intro hB (And.intro hm1 hkn)))
      clear hO hB hm1 hge20 hm20 hk hlt hkn
      go_wp2_with (go_at_call 72; refine (number_any (k : Int) _).mono ?_; rintro e w2 ⟨g2, c2, rfl, hO2, hb2⟩)
      have hrs := (HH.out.2.1.below H1.out.2.1).below hb2
      have hbl := Blk.new w2 22 #[.slice A m c, .slice (some ⟨g2, 0, none⟩) 4 c2]
      have hal : Below w2.heap.size w2 (w2.alloc (.cells #[.slice A m c, .slice (some ⟨g2, 0, none⟩) 4 c2] 22)) := (Below.refl _ _).alloc (Nat.le_refl _) _
      have hpp := rd_two hbl (hrs.below hal) (hO2.rd.below hal)
      have hb3 := hb2.trans (hal.mono hb2.size)
      refine (of_res kind HH.out.1 _ 2 2 [seed, num4 (k : Int)] _ hpp (by have := HH.out.2.2.1; simp [num4_len]; omega) ((HH.out.2.2.2.1.below H1.out.2.1).below hb3)).mono ?_
      rintro e w4 ⟨A4, n4, c4, rfl, hO4, hb4⟩
      rw [show ([seed, num4 (k : Int)] : List (List UInt8)).flatten = seed ++ num4 (k : Int) by simp] at hO4
      have hb5 := hb3.trans (hb4.mono hb3.size)
      have hln := rof_len kind HH.out.1 (seed ++ num4 (k : Int)) (by have := HH.out.2.2.1; rw [List.length_append, num4_len]; omega)
      have hl64 := hsize_le kind HH.out.1
      have H4 := Lib.hid (And.intro (H1.out.1.below hb5) (And.intro hO4.rd (And.intro (Nat.le_trans H1.out.2.1.size hb5.size) (And.intro (H1.out.2.1.trans (hb5.mono H1.out.2.1.size)) (And.intro hln hl64)))))
      clear hrs hbl hal hpp hb3 hO4 hb4 hb5 hO2 hb2 hln hl64
      go_wp2_with (at_builtin; go_must (refine wp_app2 (.tmp 26) (.tmp 32) w.heap.size _ (mgf kind seed k) H4.out.1 H4.out.2.2.1 A4 n4 c4 _ H4.out.2.1 (by rw [← H4.out.1.len]; have := H4.out.2.2.2.2.1; have := H4.out.2.2.2.2.2; omega) rfl rfl rfl rfl ?_; intro A5 n5 c5 w5 hn5 hG5))
      go_roundw
      case rel => exact ⟨k + 1, _, _, _, H1.out.2.2.2, by go_num, rfl, hG5.own, H4.out.2.2.2.1.trans hG5.below⟩
      case measure => have := H1.out.2.2.2; simp [intOf]; omega
    · have hli : ¬ ((m1 : Int) < n) := by omega
      have hms := mask_of kind seed n k hk (by rw [HL.out k, ← hm1]; exact hge)
      have hr1 := hO.rd
      have hsl := slice_three A1 m1 c1 n hr1.spot (Nat.le_trans hge hr1.2.1)
      have hfr : Rd wr A1 n n ((mgf kind seed k).take n) := by
        obtain ⟨q1, q2, q3, q4⟩ := hr1.front (k := n) hge
        exact ⟨q1, Nat.le_refl _, by omega, q4.imp (fun h => ⟨h.1, by omega⟩) id⟩
      rw [← hms] at hfr
      have H1 := Lib.hid (And.intro hfr (And.intro hB hO.addr_ge))
      clear hO hB hm1 hge20 hm20 hk hge hms hr1 hfr
      go_wp2_with fail
      go_ret
      exact ⟨_, _, _, rfl, H1.out.1, H1.out.2.2, H1.out.2.1⟩
theorem mgf_in1 (kind : Int) (hk : 1 ≤ kind ∧ kind ≤ 5) (n : Nat) (hn : 1 ≤ n) (hn2 : n ≤ 65536) (A : Option Addr) (m c : Nat) (seed : List UInt8) (w : World) (hr : Rd w A m c seed) (hs : seed.length ≤ 1000) (hK : KAt w) :
    Calls Tryd.prog 52 #[.int .i64 kind, .slice A m c, .int .i64 n] w (RdRes w (mask kind seed n)) := (mgf_in1n kind hk n hn hn2 A m c seed w hr hs hK).mono fun _ _ ⟨A, m, c, h1, h2, _, h3⟩ => ⟨A, m, c, h1, h2, h3⟩
set_option maxHeartbeats 1000000 in
theorem mgf_in2 (kind : Int) (hk : 1 ≤ kind ∧ kind ≤ 5) (n : Nat) (hn : 1 ≤ n) (hn2 : n ≤ 65536) (A : Option Addr) (m c : Nat) (seed : List UInt8) (w : World) (hr : Rd w A m c seed) (hs : seed.length ≤ 1000) :
    Calls Tryd.prog 38 #[.int .i64 kind, .slice A m c, .int .i64 n] w (RdRes w (mask kind seed n)) := by
  have hz : (hsize kind == 0) = false := hsize_ne kind hk
  have hsz := hsize_pos kind hk
  have HL := Lib.hid (mgf_len kind hk seed hs)
  have HH := Lib.hid (And.intro hk (And.intro hr (And.intro hs hsz)))
  have h1 : ¬ ((n : Int) < 1) := by omega
  have h2 : ¬ ((65536 : Int) < n) := by omega
  have hni : (n : Int) ≤ 65536 := by omega
  clear hk hr hs hsz hn
  go_enter Tryd.func38, Tryd.ntmps38
  go_wp2_with (go_at_call 32; refine (rsize_any kind _).mono ?_; rintro e w' ⟨rfl, rfl⟩)
  go_loopw [8, 9] (fun v i wr => ∃ (k : Nat) (A : Option Addr) (m c : Nat), k ≤ n ∧ i = .int .i64 k ∧ v = .slice A m c ∧ Own wr w.heap.size (.slice A m c) (mgf kind seed k) ∧ Below w.heap.size w wr) (fun _ i _ => n - (intOf i).toNat)
  case atStart => exact ⟨0, _, _, _, by omega, rfl, rfl, Own.nil _ _, Below.refl _ _⟩
  case round =>
    obtain ⟨k, A1, m1, c1, hk, rfl, rfl, hO, hB⟩ := hrel
    have hm1 := hO.len
    rw [HL.out k] at hm1
    have hki : (k : Int) ≤ 65536 := by omega
    have hk0 : (0 : Int) ≤ k := by omega
    have hge20 := HH.out.2.2.2
    have hm20 : k * 20 ≤ m1 := by rw [hm1]; exact Nat.mul_le_mul_left k hge20
    rcases Nat.lt_or_ge m1 n with hlt | hge
    · have hli : (m1 : Int) < n := by omega
      have hkn : k < n := by omega
      have H1 := Lib.hid (And.intro hO (And.intro hB (And.intro hm1 hkn)))
      have HF := Lib.hid (four_any (k : Int) wr hk0 (by omega))
      clear hO hB hm1 hge20 hm20 hk hlt hkn
      go_wp2_with (go_at_call 56; refine HF.out.mono ?_; rintro e w2 ⟨rfl, hO2, hb2⟩)
      have hrs := (HH.out.2.1.below H1.out.2.1).below hb2
      have hbl := Blk.new w2 22 #[.slice A m c, .slice (some ⟨wr.heap.size, 0, none⟩) 4 4]
      have hal : Below w2.heap.size w2 (w2.alloc (.cells #[.slice A m c, .slice (some ⟨wr.heap.size, 0, none⟩) 4 4] 22)) := (Below.refl _ _).alloc (Nat.le_refl _) _
      have hpp := rd_two hbl (hrs.below hal) (hO2.rd.below hal)
      have hb3 := hb2.trans (hal.mono hb2.size)
      have hfl : ([seed, num4 (k : Int)] : List (List UInt8)).flatten = seed ++ num4 (k : Int) := by simp
      have hll : (seed ++ num4 (k : Int)).length ≤ 1004 := by have := HH.out.2.2.1; rw [List.length_append, num4_len]; omega
      go_wp2_with fail
      refine (join_any _ 2 2 [seed, num4 (k : Int)] _ hpp (by rw [hfl]; omega)).mono ?_
      rintro e w4 ⟨v4, rfl, hO4, hb4⟩
      obtain ⟨A4, n4, c4, rfl, hr4⟩ : ∃ A n c, v4 = .slice A n c ∧ Rd w4 A n c (seed ++ num4 (k : Int)) := by
        obtain ⟨A, c, he, hr, _⟩ := hO4.shape
        rw [hfl] at he hr
        exact ⟨_, _, _, he, hr⟩
      have hb5 := hb3.trans (hb4.mono hb3.size)
      have hln := rof_len kind HH.out.1 (seed ++ num4 (k : Int)) (by omega)
      have hl64 := hsize_le kind HH.out.1
      have H4 := Lib.hid (And.intro (H1.out.1.below hb5) (And.intro hr4 (And.intro hb5 (And.intro hln (And.intro hl64 hll)))))
      clear hrs hbl hal hpp hb3 hfl hO4 hb4 hb5 hO2 hb2 hln hl64 hll HF
      go_wp2_with fail
      refine (rof_any kind HH.out.1 A4 n4 c4 _ w4 H4.out.2.1 (by have := H4.out.2.2.2.2.2; omega)).mono ?_
      rintro e w6 ⟨A6, n6, c6, rfl, hO6, hb6⟩
      have hb7 := H4.out.2.2.1.trans (hb6.mono H4.out.2.2.1.size)
      have H6 := Lib.hid (And.intro (H1.out.1.below hb7) (And.intro hO6.rd (And.intro (Nat.le_trans H1.out.2.1.size hb7.size) (H1.out.2.1.trans (hb7.mono H1.out.2.1.size)))))
      clear hO6 hb6 hb7
      go_wp2_with (at_builtin; go_must (refine wp_app2 (.tmp 38) (.tmp 39) w.heap.size _ (mgf kind seed k) H6.out.1 H6.out.2.2.1 A6 n6 c6 _ H6.out.2.1 (by rw [← H6.out.1.len]; have := H4.out.2.2.2.1; have := H4.out.2.2.2.2.1; omega) rfl rfl rfl rfl ?_; intro A8 n8 c8 w8 hn8 hG8))
      go_roundw
      case rel => exact ⟨k + 1, _, _, _, H1.out.2.2.2, by go_num, rfl, hG8.own, H6.out.2.2.2.trans hG8.below⟩
      case measure => have := H1.out.2.2.2; simp [intOf]; omega
    · have hli : ¬ ((m1 : Int) < n) := by omega
      have hms := mask_of kind seed n k hk (by rw [HL.out k, ← hm1]; exact hge)
      have hr1 := hO.rd
      have hsl := slice_to A1 m1 c1 n hr1.spot (Nat.le_trans hge hr1.2.1)
      have hfr : Rd wr A1 n c1 ((mgf kind seed k).take n) := hr1.front (k := n) hge
      rw [← hms] at hfr
      have H1 := Lib.hid (And.intro hfr hB)
      clear hO hB hm1 hge20 hm20 hk hge hms hr1 hfr
      go_wp2_with fail
      go_ret
      exact ⟨_, _, _, rfl, H1.out.1, H1.out.2⟩
end Go.Proofs.YtddemlajfbagdaaDoor
namespace Go.Proofs.YtddemlajfbagdaaDoor
open Go.RowKit

theorem neHash (a : Addr) (w : World) : (binOp .eql 70 (.pointer (some a)) (.pointer none)).run Tryd.prog w = .ok (.bool false) w := by kernel_rfl
theorem abc_sum : (rof 3 [97, 98, 99]).take 4 = [0xba, 0x78, 0x16, 0xbf] := by decide +kernel
theorem abc_len : (rof 3 [97, 98, 99]).length = 32 := by decide +kernel
theorem hm_len : (rhmac 3 [] ([] : List (List UInt8)).flatten).length = 32 := by decide +kernel
theorem abc_parts : ((HSt.start 3).write 3 [97]).write 3 [98, 99] = writes 3 [[97], [98, 99]] := rfl
theorem rd_new {w : World} {cs : Array Value} {fr : Nat × Nat} (l : List UInt8) (hcs : cs = (l.map B).toArray) (n : Nat) (hn : n = l.length) (hl : l.length ≤ 1000000) : Rd (w.alloc (.cells cs 5 fr)) (some ⟨w.heap.size, 0, none⟩) n n l := by
  subst hcs hn
  exact Rd.of_blk (heap_alloc_new w _) (by unfold maxLen; omega)
end Go.Proofs.YtddemlajfbagdaaDoor
namespace Go.Proofs.YtddemlajfbagdaaDoor
set_option maxRecDepth 100000
open Go.RowKit Go.ChangeShapes Go.WideShapes Go.ChangeAt

theorem ownKnob_none : ownKnob Tryd.prog.godebug = none := by kernel_rfl
theorem laid_out : laidOutB Tryd.prog = true := by kernel_rfl
section
variable {H : Type} {enc : TypeId × Value → H}
/-- A slice of bytes that came in. -/
theorem open_rd {W : World} {base : Nat} {v : Value} {d : DataW H} {p : List MemPlace} (hval : Value.okWide Tryd.prog W .any base 22 v) (h : DataW.Trod enc Tryd.prog W 0 (fun _ => true) true 22 v d p) :
    ∃ A m c l, v = .slice A m c ∧ Rd W A m c l := by
  have hval' := hval
  obtain ⟨a1, len, cap, rfl⟩ := okWide_slice Tryd.underlying22 hval
  obtain ⟨fuel, hf⟩ := h
  rcases open_ints Tryd.underlying22 Tryd.underlying5 (show Tryd.prog.cellsOf 5 = 1 by kernel_rfl) hf with ⟨hcs, hx⟩ | ⟨a, len', cap', zs, hcs, _, hl, hm, hz, hx, hcell, hwz⟩
  · simp [Value.cells] at hcs
    obtain ⟨rfl, rfl, rfl⟩ := hcs
    exact ⟨_, _, _, [], rfl, Rd.nil W⟩
  · simp [Value.cells] at hcs
    obtain ⟨rfl, rfl, rfl⟩ := hcs
    simp only [if_true] at hz
    unfold Value.okWide Cell.okWide Cell.ok at hval'
    rw [Tryd.underlying22] at hval'
    obtain ⟨_, _, _, hspot, row, cells, hsh, _⟩ := hval'
    have hlt : a.block < W.heap.size := by
      unfold World.shape? at hsh
      rcases Nat.lt_or_ge a.block W.heap.size with h | h
      · exact h
      · rw [Array.getElem?_eq_none h] at hsh; cases hsh
    obtain ⟨ab, ao, spot⟩ := a
    simp only at hspot hlt
    subst hspot
    refine ⟨_, len, cap, (zs.take len).map fun n => UInt8.ofNat n.toNat, rfl, by simp; omega, hl, hm, .inr ⟨ab, ao, rfl, hlt, fun k x hk => ?_⟩⟩
    have hk' : k < len := by
      have := (List.getElem?_eq_some_iff.1 hk).1
      simp at this; omega
    have hc := hcell k (by omega)
    rw [Addr.add_lit] at hc
    rw [hc]
    have e : zs[k]? = some (zs.getD k 0) := by simp [List.getD, List.getElem?_eq_getElem (show k < zs.length by omega)]
    rw [List.getElem?_map, List.getElem?_take, if_pos hk', e] at hk
    simp only [Option.map_some, Option.some.injEq] at hk
    have hw := hwz (zs.getD k 0) (List.mem_of_getElem? e)
    have hr : 0 ≤ zs.getD k 0 ∧ zs.getD k 0 ≤ 255 := by
      simpa [Lit.wf, IntKind.min, IntKind.max, IntKind.bits, IntKind.signed] using hw
    subst hk
    unfold B
    rw [UInt8.toNat_ofNat']
    congr 2
    omega
theorem below_all {W W' : World} (hb : Below W.heap.size W W') : ∀ {ts : List TypeId} {vs : List Value} {ds : List (DataW H)} {ps : List MemPlace}, (∀ t ∈ ts, Tryd.prog.readableRec t = true ∧ t < Tryd.prog.types.size) →
    DataW.TrodAll enc Tryd.prog W 0 (fun _ => true) true ts vs ds ps → (∀ x ∈ ps, x.block < W.heap.size) → DataW.TrodAll enc Tryd.prog W' 0 (fun b => decide (b < W.heap.size)) true ts vs ds ps
  | [], [], [], _, _, h, _ => h
  | _ :: _, _ :: _, _ :: _, _, hT, ⟨p, q, h1, h2, e⟩, hs =>
    ⟨p, q, Below.trod laid_out (hT _ (List.mem_cons.2 (.inl rfl))).1 (hT _ (List.mem_cons.2 (.inl rfl))).2 h1 hb (fun x hx => hs x (by rw [e]; exact List.mem_append_left _ hx)),
      below_all hb (fun t ht => hT t (List.mem_cons.2 (.inr ht))) h2 (fun x hx => hs x (by rw [e]; exact List.mem_append_right _ hx)), e⟩
theorem u8_wf {n : Int} (h : (Lit.int .u8 n).wf = true) : ∃ x : UInt8, n = (x.toNat : Int) := by
  have hr : 0 ≤ n ∧ n ≤ 255 := by simpa [Lit.wf, IntKind.min, IntKind.max, IntKind.bits, IntKind.signed] using h
  refine ⟨UInt8.ofNat n.toNat, ?_⟩
  rw [UInt8.toNat_ofNat']
  omega
theorem i64_wf {n : Int} (h : (Lit.int .i64 n).wf = true) : -9223372036854775808 ≤ n ∧ n ≤ 9223372036854775807 := by
  simpa [Lit.wf, IntKind.min, IntKind.max, IntKind.bits, IntKind.signed] using h
/-- What a law's walk owes: 'true'; nothing that was there has turned. -/
def LawRes (W : World) (e : Ending) (W' : World) : Prop := e = .returned (.bool true) ∧ Below W.heap.size W W'
theorem law_post {f : Func} {s : ChangeSpec} {W W' : World} {args : Array Value} {ds : List (DataW H)} {ps : List MemPlace} {handsOn : Bool} {fresh : Bool} (hv : s.vars = []) (hr : f.resultTypes = #[4]) (hT : ∀ t ∈ f.params.toList, Tryd.prog.readableRec t = true ∧ t < Tryd.prog.types.size)
    (hW : DataW.Whole enc Tryd.prog f.params.toList s.vars false W args.toList ds [] ps) (hs : s.fn H ds = { results := [.lit (.bool true)], args := ds }) (hb : Below W.heap.size W W') : s.post enc Tryd.prog f false fresh handsOn false W args (.bool true) W' := by
  have hW' := hW
  have hlt := hW.lt
  obtain ⟨p, q, hA, hV, rfl, _, _⟩ := hW
  rw [hv] at hV
  obtain ⟨_, rfl⟩ := trodVars_none hV
  simp only [List.append_nil] at *
  refine ⟨ds, [], p, [], p, [], hW', ?_, ?_, ?_, hb.frame _, fun h => by cases h⟩
  · rw [List.append_nil, hs, hr]
    exact trodAll_mk1 (shut_bool Tryd.underlying4 _)
  · rw [List.append_nil, hs]
    exact below_all hb hT hA hlt
  · rw [List.append_nil, hs, hv]
    rfl
end
end Go.Proofs.YtddemlajfbagdaaDoor
namespace Go.Proofs.YtddemlajfbagdaaDoor
open Go.RowKit

def maskAll (kind : Int) (seed : List UInt8) (n : Int) : List UInt8 := if (1 ≤ kind ∧ kind ≤ 5) ∧ 1 ≤ n ∧ n ≤ 65536 then mask kind seed n.toNat else []
theorem mgf1_all (kind n : Int) (A : Option Addr) (m c : Nat) (seed : List UInt8) (w : World) (hr : Rd w A m c seed) (hs : seed.length ≤ 1000) (hK : KAt w) :
    Calls Tryd.prog 52 #[.int .i64 kind, .slice A m c, .int .i64 n] w (RdRes w (maskAll kind seed n)) := by
  by_cases h : (1 ≤ kind ∧ kind ≤ 5) ∧ 1 ≤ n ∧ n ≤ 65536
  · unfold maskAll; rw [if_pos h]
    obtain ⟨k, rfl⟩ := Int.eq_ofNat_of_zero_le (show 0 ≤ n by omega)
    rw [Int.toNat_natCast]
    exact mgf_in1 kind h.1 k (by omega) (by omega) A m c seed w hr hs hK
  · unfold maskAll; rw [if_neg h]
    refine (mgf_out1 kind n (by omega) _ w).mono ?_
    rintro e w' ⟨rfl, rfl⟩
    exact ⟨none, 0, 0, rfl, Rd.nil _, Below.refl _ _⟩
theorem rmgf1_all (kind n : Int) (A : Option Addr) (m c : Nat) (seed : List UInt8) (w : World) (hr : Rd w A m c seed) (hs : seed.length ≤ 1000) :
    Calls Tryd.prog 38 #[.int .i64 kind, .slice A m c, .int .i64 n] w (RdRes w (maskAll kind seed n)) := by
  by_cases h : (1 ≤ kind ∧ kind ≤ 5) ∧ 1 ≤ n ∧ n ≤ 65536
  · unfold maskAll; rw [if_pos h]
    obtain ⟨k, rfl⟩ := Int.eq_ofNat_of_zero_le (show 0 ≤ n by omega)
    rw [Int.toNat_natCast]
    exact mgf_in2 kind h.1 k (by omega) (by omega) A m c seed w hr hs
  · unfold maskAll; rw [if_neg h]
    refine (mgf_out2 kind n (by omega) _ w).mono ?_
    rintro e w' ⟨rfl, rfl⟩
    exact ⟨none, 0, 0, rfl, Rd.nil _, Below.refl _ _⟩
end Go.Proofs.YtddemlajfbagdaaDoor
namespace Go.Proofs.YtddemlajfbagdaaDoor
set_option maxRecDepth 100000
open Go.RowKit

theorem pclone_own (A : Option Addr) (m c : Nat) (l : List UInt8) (w : World) (h : Rd w A m c l) (hm : m ≤ 100000000000) :
    Calls Tryd.prog 42 #[.slice A m c] w fun e w' => ∃ A' n' c', e = .returned (.slice A' n' c') ∧ Own w' w.heap.size (.slice A' n' c') l ∧ Below w.heap.size w w' := by
  obtain ⟨h1, h2, h3, ⟨rfl, hc⟩ | ⟨b, off, rfl, h4⟩⟩ := h
  · obtain rfl : m = 0 := by omega
    obtain rfl : l = [] := List.length_eq_zero_iff.1 h1.symm
    subst hc
    refine (clone_nil w).mono ?_
    rintro e w' ⟨rfl, rfl⟩
    exact ⟨_, _, _, rfl, Own.nil _ _, Below.refl _ _⟩
  · refine (clone_any b off m c l w h4 h1 (by omega)).mono ?_
    rintro e w' ⟨g, c', rfl, ho, hb⟩
    exact ⟨_, _, _, rfl, ho, hb⟩
theorem mask_len (kind : Int) (hk : 1 ≤ kind ∧ kind ≤ 5) (seed : List UInt8) (hs : seed.length ≤ 1000) (n : Nat) : (mask kind seed n).length = n := by
  unfold mask
  rw [List.length_take, mgf_len kind hk seed hs n]
  have h : 1 ≤ (hsize kind).toNat := by
    obtain ⟨h1, h2⟩ := hk
    have hcase : kind = 1 ∨ kind = 2 ∨ kind = 3 ∨ kind = 4 ∨ kind = 5 := by omega
    rcases hcase with rfl | rfl | rfl | rfl | rfl <;> decide
  have := Nat.le_mul_of_pos_right n h
  omega
theorem mask_step (b M q : List UInt8) (n t : Nat) (x y : UInt8) (hb : b.length = n) (hM : M.length = n) (ht : t < n) (hq : ∀ i, q[i]? = if i < t then (xorB b M)[i]? else b[i]?) (hx : b[t]? = some x) (hy : M[t]? = some y) : ∀ i, (q.set t (x ^^^ y))[i]? = if i < t + 1 then (xorB b M)[i]? else b[i]? := by
  intro i
  have hql : t < q.length := by
    have h := hq t
    rw [if_neg (by omega), hx] at h
    exact (List.getElem?_eq_some_iff.1 h).1
  have hxy : (xorB b M)[t]? = some (x ^^^ y) := by unfold xorB; rw [List.getElem?_zipWith, hx, hy]
  rw [List.getElem?_set]
  by_cases h : t = i
  · subst h
    rw [if_pos rfl, if_pos hql, if_pos (by omega), hxy]
  · rw [if_neg h, hq i]
    by_cases h2 : i < t
    · rw [if_pos h2, if_pos (by omega)]
    · rw [if_neg h2, if_neg (by omega)]
set_option maxHeartbeats 4000000 in
theorem pmask_any (kind : Int) (hk : 1 ≤ kind ∧ kind ≤ 5) (A C : Option Addr) (ms cs n cb : Nat) (seed b : List UInt8) (w : World) (hs : Rd w A ms cs seed) (hb : Rd w C n cb b) (hs1 : ms ≤ 1000) (hn : n ≤ 1000) (hn1 : 1 ≤ n) (hK : KAt w) :
    Calls Tryd.prog 35 #[.int .i64 kind, .slice A ms cs, .slice C n cb] w (RowRes w (xorB b (mask kind seed n))) := by
  have hbl := hb.1
  have hsl := hs.1
  have hml := mask_len kind hk seed (by omega) n
  obtain ⟨M, hM⟩ : ∃ M, mask kind seed n = M := ⟨_, rfl⟩
  have hmgf := fun W (hs : Rd W A ms cs seed) (hK : KAt W) => mgf_in1n kind hk n hn1 (by omega) A ms cs seed W hs (by omega) hK
  simp only [hM] at hmgf
  rw [hM] at hml ⊢
  have HH := Lib.hid (And.intro hs (And.intro hb (And.intro hK (And.intro hmgf (And.intro hml hbl)))))
  clear hs hb hK hmgf hml hbl hM hsl
  go_enter Tryd.func35, Tryd.ntmps35
  go_wp2_with fail
  refine (pclone_own C n cb b w HH.out.2.1 (by omega)).mono ?_
  rintro e w1 ⟨A1, n1, c1, rfl, hO1, hB1⟩
  have hn1l := hO1.len
  rw [← HH.out.2.2.2.2.2] at hn1l
  obtain rfl : n = n1 := by omega
  clear hn1l
  obtain ⟨g, cg, e1⟩ := hO1.form (by intro e; injection e with _ e2 _; omega)
  injection e1 with e1 e2 e3
  subst e1 e3
  clear e2
  have H1 := Lib.hid (And.intro hO1 (show Old w w1 from hB1))
  clear hO1 hB1
  go_wp2_with fail
  refine (HH.out.2.2.2.1 w1 (HH.out.1.below H1.out.2) (HH.out.2.2.1.below H1.out.2)).mono ?_
  rintro e w2 ⟨A2, n2, c2, rfl, hR2, hF2, hB2⟩
  have hn2l := hR2.1
  rw [HH.out.2.2.2.2.1] at hn2l
  obtain rfl : n = n2 := by omega
  clear hn2l
  have hg1 := (H1.out.1.lt (g := g) rfl).2
  have H2 := Lib.hid (And.intro (H1.out.1.below hB2) (And.intro hR2 (And.intro (show ∀ ad : Addr, A2 = some ad → ad.block ≠ g from fun ad e => by have := hF2 ad e; omega) (Old.trans H1.out.2 hB2))))
  clear hR2 hF2 hB2 hg1
  go_wp2_with fail
  go_loopw [18] (fun iv wr => ∃ (t : Nat) (q : List UInt8), t ≤ n ∧ iv = .int .i64 (t : Int) ∧ Own wr w.heap.size (.slice (some ⟨g, 0, none⟩) n c1) q ∧ (∀ i, q[i]? = if i < t then (xorB b M)[i]? else b[i]?) ∧ Turn [g] w2 wr) (fun iv _ => n - (intOf iv).toNat)
  case atStart => exact ⟨0, b, by omega, rfl, H2.out.1, fun i => by rw [if_neg (by omega)], Turn.refl _ _⟩
  case round =>
    obtain ⟨t, q, ht, rfl, hOq, hq, hT⟩ := hrel
    by_cases hlt : t < n
    · have hti : (t : Int) < n := by omega
      have htd : decide ((t : Int) < n) = true := decide_eq_true hti
      obtain ⟨x, hx⟩ : ∃ x, b[t]? = some x := ⟨_, List.getElem?_eq_getElem (by have := HH.out.2.2.2.2.2; omega)⟩
      obtain ⟨y, hy⟩ : ∃ y, M[t]? = some y := ⟨_, List.getElem?_eq_getElem (by have := HH.out.2.2.2.2.1; omega)⟩
      have hqx : q[t]? = some x := by rw [hq t, if_neg (by omega)]; exact hx
      have hRM := H2.out.2.1.turn hT (fun ad e hm => by simp at hm; exact H2.out.2.2.1 ad e hm)
      obtain ⟨bm, om, rfl, hat⟩ := hRM.addr (by omega)
      have ym := hat.2 t y hy
      have yq := hOq.cell t x hqx
      have fq := hOq.frozen t
      have hst := mask_step b M q n t x y HH.out.2.2.2.2.2.symm HH.out.2.2.2.2.1 hlt hq hx hy
      have HN := Lib.hid (And.intro (hOq.set_ t (x ^^^ y) (by have := hOq.len; omega)) (And.intro hst (And.intro (hT.setCell (p := ⟨g, t, none⟩) (.inl (by simp)) (B (x ^^^ y))) hlt)))
      clear hOq hq hT hRM hat hst hx hy hqx hlt ht
      go_wp2_with fail
      go_roundw
      case rel => exact ⟨t + 1, q.set t (x ^^^ y), HN.out.2.2.2, by go_num, HN.out.1, HN.out.2.1, HN.out.2.2.1⟩
      case measure => have := HN.out.2.2.2; simp [intOf]; omega
    · obtain rfl : t = n := by omega
      have hti : ¬ (t : Int) < t := by omega
      have htd : decide ((t : Int) < t) = false := decide_eq_false hti
      have hxl := xorB_len b M (by rw [HH.out.2.2.2.2.1]; have := HH.out.2.2.2.2.2; omega)
      have hqe : q = xorB b M := by
        apply List.ext_getElem?
        intro i
        rw [hq i]
        by_cases h : i < t
        · rw [if_pos h]
        · rw [if_neg h, List.getElem?_eq_none (by have := HH.out.2.2.2.2.2; omega), List.getElem?_eq_none (by rw [hxl]; have := HH.out.2.2.2.2.2; omega)]
      subst hqe
      have HN := Lib.hid (And.intro hOq (below_turn H2.out.2.2.2 hT (fun x hx => by simp at hx; rw [hx]; exact (H1.out.1.lt rfl).1) H2.out.2.2.2.size))
      clear hOq hq hT hxl ht hlt
      go_wp2_with fail
      go_ret
      exact ⟨_, _, _, rfl, HN.out.1, HN.out.2⟩
end Go.Proofs.YtddemlajfbagdaaDoor
