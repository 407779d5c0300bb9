/-
  The small functions of audit: Get16, Seq, Head, read; numbers out of bytes and back, plainly.
-/
import Derived.Test.YtpccmcpeijmekaaDoorWords16
import Derived.Test.YtpccmcpeijmekaaDoorRot
import Derived.Test.YtpccmcpeijmekaaDoorReg
import Derived.Test.YtpccmcpeijmekaaDoorRh2
import Derived.Test.YtpccmcpeijmekaaDoorROf
import Derived.Test.YtpccmcpeijmekaaDoorAudL
import Derived.Test.YtpccmcpeijmekaaDoorShort
namespace Go.Proofs.YtpccmcpeijmekaaDoor
open Go.RowKit

theorem get16_any (b off n c : Nat) (l : List UInt8) (w : World) (h : At w b off l) (hn : n = l.length) (h4 : 2 ≤ n) :
    Calls Tryd.prog 33 #[.slice (some ⟨b, off, none⟩) n c] w fun e w' => e = .returned (U16 (word16 l 0)) ∧ ∃ k, w' = w.drewN k := by
  have c0 := h.cellD (k := 0) (by omega)
  have c1 := h.cellD (k := 1) (by omega)
  unfold word16
  simp only [Nat.add_zero, Nat.zero_add] at *
  generalize l.getD 0 0 = x0 at *
  generalize l.getD 1 0 = x1 at *
  have l0 : (0 : Int) < n := by omega
  have l1 : (1 : Int) < n := by omega
  have H := Lib.hid hn
  have H2 := Lib.hid h
  clear hn h
  go_enter Tryd.func33, Tryd.ntmps33
  go_wp2
  go_quiet (fail)
  go_wp2
  go_ret
  exact ⟨rfl, _, rfl⟩
/-- Whole lines. -/
theorem seq_any (A : Option Addr) (m c : Nat) (w : World) (hm : m ≤ 1000000000) :
    Calls Tryd.prog 10 #[.slice A m c] w fun e w' => e = .returned (.int .i64 ((m / 52 : Nat) : Int)) ∧ w = w' := by
  go_enter Tryd.func10, Tryd.ntmps10
  go_wp2
  go_ret
  exact ⟨by first | rfl | (congr 1; omega), rfl⟩
theorem Rd.cut_mid {w : World} {A : Option Addr} {m c k j d : Nat} {l : List UInt8} (h : Rd w A m c l) (hj : j ≤ m) (hd : j = k + d) :
    ∃ A' c', (∀ w, (Instr.slice 24 (.slice A m c) (some (.int .i64 (k : Int))) (some (.int .i64 (j : Int))) none).run Tryd.prog w = .ok (.slice A' d c') w) ∧ Rd w A' d c' ((l.drop k).take d) := by
  have h1 := h.2.1
  have e : j - k = d := by omega
  have := slice_both A m c k j (by omega) (by omega)
  rw [e] at this
  exact ⟨_, _, this, (h.cut (k := k) (by omega)).front (k := d) (by omega)⟩
theorem make32z (w : World) : (Instr.makeSlice 24 (.int .i64 32) (.int .i64 32)).run Tryd.prog w = .ok (.slice (some ⟨w.heap.size, 0, none⟩) 32 32) (w.alloc (.cells (madeCells #[.int .u8 0] 32) 5)) := Tryd.prog_make 32 (by omega) w
theorem head_any (A : Option Addr) (m c : Nat) (l : List UInt8) (w : World) (h : Rd w A m c l) (hm : m ≤ 1000000000) :
    Calls Tryd.prog 11 #[.slice A m c] w (RowRes w (lastHash l)) := by
  have HS := Lib.hid (seq_any A m c w hm)
  have hl := h.1
  obtain ⟨q, hq⟩ : ∃ q, m / 52 = q := ⟨_, rfl⟩
  have hqm : q * 52 ≤ m := by omega
  rcases Nat.eq_zero_or_pos q with rfl | hq0
  · have hmk := make32z
    have e : lastHash l = zs 32 := by unfold lastHash; rw [if_pos (by omega)]
    rw [e]
    rw [hq] at HS
    clear hl e h
    go_enter Tryd.func11, Tryd.ntmps11
    go_wp2_with (go_at_call 10; refine HS.out.mono ?_; rintro e w' ⟨rfl, rfl⟩)
    go_ret
    exact RowRes.of (Own.made _ 32 (by unfold maxLen; omega)) ((Below.refl _ _).alloc (Nat.le_refl _) _)
  · obtain ⟨A', c', hrun, hr'⟩ := h.cut_mid (k := q * 52 - 32) (j := q * 52) (d := 32) hqm (by omega)
    obtain ⟨b', off', rfl, hat⟩ := hr'.addr (by omega)
    have e : lastHash l = (l.drop (q * 52 - 32)).take 32 := by unfold lastHash; rw [← hl, hq, if_neg (by omega)]
    have hC := Lib.hid (fun (w' : World) => clone_any b' off' 32 c' _ w hat (by rw [List.length_take, List.length_drop]; omega) (by omega))
    rw [← e] at hC
    rw [hq] at HS
    have hs2 : ∀ w, (Instr.slice 24 (.slice A m c) (some (.int .i64 ((q : Int) * 52 - 52 + 20))) (some (.int .i64 ((q : Int) * 52))) none).run Tryd.prog w = .ok (.slice (some ⟨b', off', none⟩) 32 c') w := by
      intro w
      have := hrun w
      rw [show ((q * 52 - 32 : Nat) : Int) = (q : Int) * 52 - 52 + 20 by omega, show ((q * 52 : Nat) : Int) = (q : Int) * 52 by omega] at this
      exact this
    have hz : ((q : Int) * 52 == 0) = false := by simp; omega
    have hqi : (q : Int) * 52 ≤ 1000000000 := by omega
    have hqp : (52 : Int) ≤ (q : Int) * 52 := by omega
    have hqq : (q : Int) ≤ 1000000000 := by omega
    clear hl e h hrun hat hr' hm hqm hq0 hq
    go_enter Tryd.func11, Tryd.ntmps11
    go_wp2_with (first
      | (go_at_call 10; refine HS.out.mono ?_; rintro e w' ⟨rfl, rfl⟩)
      | (go_at_call 15; refine (hC.out w).mono ?_; rintro e w1 ⟨g, c1, rfl, hO, hB⟩))
    go_ret
    exact RowRes.of hO hB
end Go.Proofs.YtpccmcpeijmekaaDoor
