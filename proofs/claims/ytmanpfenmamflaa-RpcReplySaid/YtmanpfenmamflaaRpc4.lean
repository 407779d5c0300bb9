/-
  The writer's frame.
-/
import Derived.Test.YtmanpfenmamflaaRpc3
namespace Go.Proofs.Ytmanpfenmamflaa
open Go.RowKit

def frameO (s : Option (List UInt8)) : Option (List UInt8) := s.bind fun l => if 262144 < l.length then none else some (num l.length 4 ++ l)
theorem bytes32_num (n : Nat) (h : n < 4294967296) : bytes32 (UInt32.ofNat n) = num n 4 := by
  unfold num bytes64 bytes32
  simp only [Nat.reduceSub, List.drop_succ_cons, List.drop_zero, List.cons.injEq, and_true]
  have e : (UInt32.ofNat n).toNat = (UInt64.ofNat n).toNat := by rw [UInt32.toNat_ofNat', UInt64.toNat_ofNat']; omega
  refine ⟨?_, ?_, ?_, ?_⟩ <;> apply UInt8.toNat_inj.1 <;> simp [e]
/-- What is given back: bytes of one's own, or none. -/
def FrRes (w : World) (f : Option (List UInt8)) (e : Ending) (w' : World) : Prop := Below w.heap.size w w' ∧ ((f = none ∧ e = .returned (.tuple #[.slice none 0 0, .bool false])) ∨ ∃ x, f = some x ∧ ∃ A n c, e = .returned (.tuple #[.slice A n c, .bool true]) ∧ Own w' w.heap.size (.slice A n c) x)
set_option maxHeartbeats 1000000 in
theorem frame_o (p : Nat) (S : List Nat) (s : Option (List UInt8)) (K : Nat) (w : World) (h : WrO w p S s K) (hK : K ≤ 1000000000000) :
    Calls Try.prog 25 #[.pointer (some ⟨p, 0, none⟩)] w (FrRes w (frameO s)) := by
  obtain ⟨l, bad, ⟨A, n, c, hb, ho, hS⟩, hl, rfl⟩ := h
  have hbl := hb.cell 1
  have hbc := hb.cell 0
  simp only [List.getElem?_toArray, List.getElem?_cons_succ, List.getElem?_cons_zero] at hbl hbc
  have hn := ho.len
  have hml := ho.rd.2.2.1
  have H := Lib.hid (And.intro hb (And.intro ho (And.intro hn (And.intro hl hK))))
  unfold maxLen at hml
  have hmc := ho.rd.2.1
  clear hb ho hS hl hn hK
  cases bad
  · by_cases hc : 262144 < n
    · have hci : (262144 : Int) < n := by omega
      have hcd : decide ((262144 : Int) < n) = true := decide_eq_true hci
      go_enter Try.func25, Try.ntmps25
      go_wp2_with fail
      go_ret2
      refine ⟨Below.refl _ _, .inl ⟨?_, rfl⟩⟩
      show (some l).bind _ = none
      rw [Option.bind_some, if_pos (by rw [← H.out.2.2.1]; exact hc)]
    · have hci : ¬ (262144 : Int) < n := by omega
      have hcd : decide ((262144 : Int) < n) = false := decide_eq_false hci
      have hcv : ∀ w : World, (convert 3 76 (.int .i64 (n : Int))).run Try.prog w = .ok (U32 (UInt32.ofNat n)) w := fun w => by
        rw [conv_int w .u32 Try.underlying3 Try.underlying76, wrap_u32, ← U32_eq (x := UInt32.ofNat n)]
        rw [UInt32.toNat_ofNat']; omega
      have HC := Lib.hid hcv
      clear hcv
      have hfin : frameO (if false = true then none else some l) = some (num n 4 ++ l) := by
        show (some l).bind _ = _
        rw [Option.bind_some, if_neg (by rw [← H.out.2.2.1]; exact hc), ← H.out.2.2.1]
      have HF := Lib.hid hfin
      clear hfin
      go_enter Try.func25, Try.ntmps25
      go_wp2_with fail
      refine region_old (by kernel_rfl) (fun wd hHeld hSz => ?_)
      have HSz := Lib.hid hSz
      clear hSz
      refine takeL (i := 0) (v := ?_) rfl (by kernel_rfl) (by kernel_rfl) (by kernel_rfl) (fun _ _ _ h => h) (Or.inl ⟨by rfl, ?_⟩) hHeld ?_
      rotate_left
      focus (intro wq hSw; clear hSw; go_simp; try with_reducible rfl)
      try simp only [Act.put, List.setIfInBounds_toArray, List.set_cons_zero, List.set_cons_succ]
      refine takeL (i := 1) (v := ?_) rfl (by kernel_rfl) (by kernel_rfl) (by kernel_rfl) (fun _ _ _ h => h) (Or.inl ⟨by rfl, ?_⟩) hHeld ?_
      rotate_left
      focus (intro wq hSw; clear hSw; go_simp; try with_reducible rfl)
      try simp only [Act.put, List.setIfInBounds_toArray, List.set_cons_zero, List.set_cons_succ]
      refine takeL (i := 2) (v := ?_) rfl (by kernel_rfl) (by kernel_rfl) (by kernel_rfl) (fun _ _ _ h => h) (Or.inl ⟨by rfl, ?_⟩) hHeld ?_
      rotate_left
      focus (intro wq hSw; clear hSw; go_simp; try with_reducible rfl)
      try simp only [Act.put, List.setIfInBounds_toArray, List.set_cons_zero, List.set_cons_succ]
      refine takeL (i := 3) (v := ?_) rfl (by kernel_rfl) (by kernel_rfl) (by kernel_rfl) (fun _ _ _ h => h) (Or.inl ⟨by rfl, ?_⟩) hHeld ?_
      rotate_left
      focus (intro wq hSw; have hcq : wq.cell? ⟨p, 0, none⟩ = some (.slice A n c) := ((H.out.1.below hSw).cell 0).trans rfl; clear hSw; go_simp; try with_reducible rfl)
      try simp only [Act.put, List.setIfInBounds_toArray, List.set_cons_zero, List.set_cons_succ]
      refine takeL (i := 4) (v := ?_) rfl (by kernel_rfl) (by kernel_rfl) (by kernel_rfl) (fun _ _ _ h => h) (Or.inl ⟨by rfl, ?_⟩) hHeld ?_
      rotate_left
      focus (intro wq hSw; clear hSw; go_simp; try with_reducible rfl)
      try simp only [Act.put, List.setIfInBounds_toArray, List.set_cons_zero, List.set_cons_succ]
      refine takeL (i := 5) (v := ?_) rfl (by kernel_rfl) (by kernel_rfl) (by kernel_rfl) (fun _ _ _ h => h) (Or.inl ⟨by rfl, ?_⟩) hHeld ?_
      rotate_left
      focus (intro wq hSw; have hRun := HC.out wq; clear hSw; go_simp; try with_reducible rfl)
      try simp only [Act.put, List.setIfInBounds_toArray, List.set_cons_zero, List.set_cons_succ]
      refine takeL (i := 7) (v := ?_) rfl (by kernel_rfl) (by kernel_rfl) (by kernel_rfl) (fun _ _ _ h => h) (Or.inl ⟨by rfl, ?_⟩) hHeld ?_
      rotate_left
      focus (intro wq hSw; clear hSw; go_simp; try with_reducible rfl)
      try simp only [Act.put, List.setIfInBounds_toArray, List.set_cons_zero, List.set_cons_succ]
      refine takeL (i := 8) (v := ?_) rfl (by kernel_rfl) (by kernel_rfl) (by kernel_rfl) (fun _ _ _ h => h) (Or.inl ⟨by rfl, ?_⟩) hHeld ?_
      rotate_left
      focus (intro wq hSw; clear hSw; go_simp; try with_reducible rfl)
      try simp only [Act.put, List.setIfInBounds_toArray, List.set_cons_zero, List.set_cons_succ]
      refine takeL (i := 9) (v := ?_) rfl (by kernel_rfl) (by kernel_rfl) (by kernel_rfl) (fun _ _ _ h => h) (Or.inl ⟨by rfl, ?_⟩) hHeld ?_
      rotate_left
      focus (intro wq hSw; clear hSw; go_simp; try with_reducible rfl)
      try simp only [Act.put, List.setIfInBounds_toArray, List.set_cons_zero, List.set_cons_succ]
      refine takeL (i := 10) (v := ?_) rfl (by kernel_rfl) (by kernel_rfl) (by kernel_rfl) (fun _ _ _ h => h) (Or.inl ⟨by rfl, ?_⟩) hHeld ?_
      rotate_left
      focus (intro wq hSw; have hcq : wq.cell? ⟨p, 0, none⟩ = some (.slice A n c) := ((H.out.1.below hSw).cell 0).trans rfl; clear hSw; go_simp; try with_reducible rfl)
      try simp only [Act.put, List.setIfInBounds_toArray, List.set_cons_zero, List.set_cons_succ]
      refine wpAnyH_ready (rs := [6]) (by kernel_rfl) (by simp) ?_
      refine consL rfl (fun K hK => ?_) AllReadyH.nil
      go_simp
      refine (append32_any (.slice none 0 0) (UInt32.ofNat n) [] wd wd.heap.size (Own.nil _ _) (Nat.le_refl _) (by simp)).mono ?_
      rintro e w1 ⟨v1, rfl, hv1, hT1, _⟩
      have hb1 : Below wd.heap.size wd w1 := Turn.below hT1
      rw [List.nil_append, bytes32_num n (by omega)] at hv1
      refine hK.out _ _ (hHeld.trans hb1) (fun hHeld => ?_)
      clear hK K hT1
      try simp only [Act.put, List.setIfInBounds_toArray, List.set_cons_zero, List.set_cons_succ]
      have HV := Lib.hid (And.intro hv1 (And.intro hb1 HSz.out))
      clear hv1 hb1
      refine wpAnyH_ready (rs := [11]) (by kernel_rfl) (by simp) ?_
      refine consL rfl (fun K hK => ?_) AllReadyH.nil
      refine step_app2 (.tmp 22) (.tmp 26) wd.heap.size v1 (num n 4) HV.out.1 HV.out.2.1.size A n c l ((H.out.2.1.below hHeld).rd) (by rw [num_len _ _ (by omega)]; have := H.out.2.2.1; omega) rfl rfl rfl rfl ?_
      intro A8 n8 c8 w8 hi8 hG
      refine hK.out _ _ (Below.trans hHeld (hG.below.mono (by have := HSz.out; omega))) (fun hHeld => ?_)
      clear hK K
      try simp only [Act.put, List.setIfInBounds_toArray, List.set_cons_zero, List.set_cons_succ]
      have H8 := Lib.hid hG
      clear hG
      refine takeL (i := 12) (v := ?_) rfl (by kernel_rfl) (by kernel_rfl) (by kernel_rfl) (fun _ _ _ h => h) (Or.inl ⟨by rfl, ?_⟩) hHeld ?_
      rotate_left
      focus (intro wq hSw; clear hSw; go_simp; try with_reducible rfl)
      try simp only [Act.put, List.setIfInBounds_toArray, List.set_cons_zero, List.set_cons_succ]
      refine takeL (i := 13) (v := ?_) rfl (by kernel_rfl) (by kernel_rfl) (by kernel_rfl) (fun _ _ _ h => h) (Or.inl ⟨by rfl, ?_⟩) hHeld ?_
      rotate_left
      focus (intro wq hSw; clear hSw; go_simp; try with_reducible rfl)
      try simp only [Act.put, List.setIfInBounds_toArray, List.set_cons_zero, List.set_cons_succ]
      refine wpAnyH_done (by kernel_rfl) ?_ _
      refine NoPanic.normal ?_
      have HH := Lib.hid hHeld
      clear hHeld
      go_wp2_with fail
      go_ret2
      exact ⟨HH.out, .inr ⟨_, HF.out, A8, n8, c8, rfl, H8.out.own.mono (by have := HSz.out; omega)⟩⟩
  · go_enter Try.func25, Try.ntmps25
    go_wp2_with fail
    go_ret2
    exact ⟨Below.refl _ _, .inl ⟨rfl, rfl⟩⟩
end Go.Proofs.Ytmanpfenmamflaa
