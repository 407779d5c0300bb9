/-
  The reference's Call.
-/
import Derived.Test.YtmanpfenmamflaaRpcR2
import Derived.Test.YtmanpfenmamflaaRpcR3
namespace Go.Proofs.Ytmanpfenmamflaa
open Go.RowKit

theorem p4_in {n : Int} (h : inHalf n = true) : p4 n = some (num n.toNat 4) := by
  have := of_decide_eq_true h
  exact pnum_ok (by omega)
theorem p4_out {n : Int} (h : inHalf n = false) : p4 n = none := by
  have := of_decide_eq_false h
  exact if_pos (by omega)
theorem p4s_out : ∀ (l : List Int), l.all inHalf = false → pcat (l.map p4) = none
  | [], h => by simp at h
  | x :: l, h => by
    rw [List.map_cons, pcat]
    cases hx : inHalf x with
    | false => rw [p4_out hx, ocat_none]
    | true =>
      rw [List.all_cons, hx, Bool.true_and] at h
      rw [p4s_out l h, ocat_none2]
theorem callO_no {c : PCall} (h : c.fn < 0 ∨ 255 < c.fn ∨ [c.ss, c.a, c.b, c.n, c.kd].all inHalf = false ∨ (65535 : Int) < c.param.length ∨ (65535 : Int) < c.more.length ∨ (65536 : Int) < c.data.length ∨ pattrs c.t1 = none ∨ pattrs c.t2 = none) : frameO (callO c) = none := by
  have : callO c = none := by
    unfold callO
    rcases h with h | h | h | h | h | h | h | h
    · rw [show pnum c.fn 1 255 = none from if_pos (.inl h)]; rfl
    · rw [show pnum c.fn 1 255 = none from if_pos (.inr h)]; rfl
    · rw [p4s_out _ h, ocat_none2]; rfl
    · rw [pbytes_no h, ocat_none2]; rfl
    · rw [pbytes_no h, ocat_none2]; rfl
    · rw [pbytes_no h, ocat_none2]; rfl
    · rw [h, ocat_none2]; rfl
    · rw [h, ocat_none2]
  rw [this]; rfl
set_option maxRecDepth 100000 in
set_option maxHeartbeats 4000000 in
theorem rcall_no (c : PCall) (p d e t u : Sl) (w : World) (h : CallIs w w.heap.size c p d e t u) (hbad : c.fn < 0 ∨ 255 < c.fn ∨ [c.ss, c.a, c.b, c.n, c.kd].all inHalf = false ∨ (65535 : Int) < c.param.length ∨ (65535 : Int) < c.more.length ∨ (65536 : Int) < c.data.length) :
    Calls Try.prog 10 #[callV c p d e t u] w (FrRes w (frameO (callO c))) := by
  unfold callV
  obtain ⟨X, hX⟩ : ∃ X, X = w.heap.size := ⟨_, rfl⟩
  obtain ⟨wA, hwA⟩ : ∃ wA, w.alloc (.cells (callC c p d e t u) 27) = wA := ⟨_, rfl⟩
  have hC : Blk wA X 27 (callC c p d e t u) := by rw [← hwA, hX]; exact Blk.new _ _ _
  have hbA : Below X w wA := by rw [← hwA, hX]; exact (Below.refl _ _).alloc (Nat.le_refl _) _
  have hsA : wA.heap.size = X + 1 := by rw [← hwA, hX]; simp
  have hI : CallIs wA (X + 1) c p d e t u := ((hX ▸ h).old hbA).mono (by omega)
  have lp := h.hp.len
  have ld := h.hd.len
  have le := h.he.len
  have HA := Lib.hid (And.intro hC (And.intro hbA (And.intro hsA (And.intro hI hX))))
  have HL := Lib.hid (And.intro lp (And.intro ld le))
  have m63 : ∀ {s : Sl} {l : List UInt8}, RdB w w.heap.size s.A s.m s.c l → (s.m : Int) ≤ 9223372036854775807 := fun {s} {l} hr => by
    rcases hr with ⟨hr, _⟩ | hr
    · have := hr.2.1; have := hr.2.2.1; unfold maxLen at this; omega
    · omega
  have mp := m63 h.hp
  have md := m63 h.hd
  have me := m63 h.he
  have hfr : ∀ f, FrRes wA f = FrRes wA f := fun _ => rfl
  clear hbA hsA hI lp ld le m63 hfr h
  have q : ∀ i, wA.cell? ⟨X, i, none⟩ = (callC c p d e t u)[i]? := fun i => hC.cell i
  have q0 := q 0
  have q1 := q 1
  have q2 := q 2
  have q3 := q 3
  have q4 := q 4
  have q5 := q 5
  have q6 := q 6
  have q7 := q 7
  have q8 := q 8
  have q9 := q 9
  have q10 := q 10
  simp only [callC, List.getElem?_toArray, List.getElem?_cons_succ, List.getElem?_cons_zero] at q0 q1 q2 q3 q4 q5 q6 q7 q8 q9 q10
  clear q hC
  have hXw : w.heap.size = X := hX.symm
  clear hX
  unfold callC at hwA
  by_cases b1 : c.fn < 0
  · have d1 : decide (c.fn < 0) = true := decide_eq_true b1
    rw [callO_no (.inl b1)]
    go_enter Try.func10, Try.ntmps10
    go_wp2_with fail
    go_ret2
    exact ⟨by have := HA.out.2.1; rwa [HA.out.2.2.2.2] at this, .inl ⟨rfl, rfl⟩⟩
  have d1 : decide (c.fn < 0) = false := decide_eq_false b1
  by_cases b2 : 255 < c.fn
  · have d2 : decide (255 < c.fn) = true := decide_eq_true b2
    rw [callO_no (.inr (.inl b2))]
    go_enter Try.func10, Try.ntmps10
    go_wp2_with fail
    go_ret2
    exact ⟨by have := HA.out.2.1; rwa [HA.out.2.2.2.2] at this, .inl ⟨rfl, rfl⟩⟩
  have d2 : decide (255 < c.fn) = false := decide_eq_false b2
  obtain ⟨wB, hwB⟩ : ∃ wB, wA.alloc (.cells #[.int .i64 c.ss, .int .i64 c.a, .int .i64 c.b, .int .i64 c.n, .int .i64 c.kd] 3) = wB := ⟨_, rfl⟩
  have hQ : Blk wB (X + 1) 3 #[.int .i64 c.ss, .int .i64 c.a, .int .i64 c.b, .int .i64 c.n, .int .i64 c.kd] := by rw [← hwB, ← HA.out.2.2.1]; exact Blk.new _ _ _
  have hbB : Below (X + 1) wA wB := by rw [← hwB, ← HA.out.2.2.1]; exact (Below.refl _ _).alloc (Nat.le_refl _) _
  have hsB : wB.heap.size = X + 2 := by rw [← hwB]; simp [HA.out.2.2.1]
  have hIn : IntsAt wB wB.heap.size ⟨some ⟨X + 1, 0, none⟩, 5, 5⟩ [c.ss, c.a, c.b, c.n, c.kd] := by
    refine ⟨rfl, Nat.le_refl _, (show 5 ≤ maxLen by decide), .inr ⟨X + 1, 0, rfl, hQ.lt, hQ.lt, fun j x hj => ?_⟩⟩
    rw [hQ.cell, Nat.zero_add, show (#[Value.int .i64 c.ss, .int .i64 c.a, .int .i64 c.b, .int .i64 c.n, .int .i64 c.kd] : Array Value) = ([c.ss, c.a, c.b, c.n, c.kd].map (Value.int .i64)).toArray from rfl, List.getElem?_toArray, List.getElem?_map, hj]; rfl
  have hwb : Below w.heap.size w wB := by have := HA.out.2.1.trans (hbB.mono (by omega)); rwa [HA.out.2.2.2.2] at this
  have hsA := HA.out.2.2.1
  have hCB : Blk wB X 27 (callC c p d e t u) := HA.out.1.keep (hbB.block X (by omega))
  have r6 := hCB.cell 6
  have r7 := hCB.cell 7
  have r8 := hCB.cell 8
  have r9 := hCB.cell 9
  have r10 := hCB.cell 10
  simp only [callC, List.getElem?_toArray, List.getElem?_cons_succ, List.getElem?_cons_zero] at r6 r7 r8 r9 r10
  have HB := Lib.hid (And.intro hbB (And.intro hsB (And.intro hIn hwb)))
  clear hCB
  clear hQ hbB hsB hIn hwb
  by_cases b3 : [c.ss, c.a, c.b, c.n, c.kd].all inHalf = false
  · rw [callO_no (.inr (.inr (.inl b3)))]
    go_enter Try.func10, Try.ntmps10
    go_wp2_with fail
    refine (fits_any ⟨some ⟨X + 1, 0, none⟩, 5, 5⟩ [c.ss, c.a, c.b, c.n, c.kd] wB HB.out.2.2.1).mono ?_
    rintro e0 w0 ⟨rfl, rfl⟩
    rw [b3]
    go_wp2_with fail
    go_ret2
    exact ⟨HB.out.2.2.2, .inl ⟨rfl, rfl⟩⟩
  have b3 : [c.ss, c.a, c.b, c.n, c.kd].all inHalf = true := by simpa using b3
  by_cases b4 : (65535 : Int) < p.m
  · have d4 : decide ((65535 : Int) < p.m) = true := decide_eq_true b4
    rw [callO_no (.inr (.inr (.inr (.inl (by rw [← HL.out.1]; exact b4)))))]
    go_enter Try.func10, Try.ntmps10
    go_wp2_with fail
    refine (fits_any ⟨some ⟨X + 1, 0, none⟩, 5, 5⟩ [c.ss, c.a, c.b, c.n, c.kd] wB HB.out.2.2.1).mono ?_
    rintro e0 w0 ⟨rfl, rfl⟩
    rw [b3]
    go_wp2_with fail
    go_ret2
    exact ⟨HB.out.2.2.2, .inl ⟨rfl, rfl⟩⟩
  have d4 : decide ((65535 : Int) < p.m) = false := decide_eq_false b4
  by_cases b5 : (65535 : Int) < e.m
  · have d5 : decide ((65535 : Int) < e.m) = true := decide_eq_true b5
    rw [callO_no (.inr (.inr (.inr (.inr (.inl (by rw [← HL.out.2.2]; exact b5))))))]
    go_enter Try.func10, Try.ntmps10
    go_wp2_with fail
    refine (fits_any ⟨some ⟨X + 1, 0, none⟩, 5, 5⟩ [c.ss, c.a, c.b, c.n, c.kd] wB HB.out.2.2.1).mono ?_
    rintro e0 w0 ⟨rfl, rfl⟩
    rw [b3]
    go_wp2_with fail
    go_ret2
    exact ⟨HB.out.2.2.2, .inl ⟨rfl, rfl⟩⟩
  have d5 : decide ((65535 : Int) < e.m) = false := decide_eq_false b5
  by_cases b6 : (65536 : Int) < d.m
  · have d6 : decide ((65536 : Int) < d.m) = true := decide_eq_true b6
    rw [callO_no (.inr (.inr (.inr (.inr (.inr (.inl (by rw [← HL.out.2.1]; exact b6)))))))]
    go_enter Try.func10, Try.ntmps10
    go_wp2_with fail
    refine (fits_any ⟨some ⟨X + 1, 0, none⟩, 5, 5⟩ [c.ss, c.a, c.b, c.n, c.kd] wB HB.out.2.2.1).mono ?_
    rintro e0 w0 ⟨rfl, rfl⟩
    rw [b3]
    go_wp2_with fail
    go_ret2
    exact ⟨HB.out.2.2.2, .inl ⟨rfl, rfl⟩⟩
  have hl := HL.out
  rcases hbad with h | h | h | h | h | h
  · exact absurd h b1
  · exact absurd h b2
  · rw [b3] at h; cases h
  · omega
  · omega
  · omega
end Go.Proofs.Ytmanpfenmamflaa
