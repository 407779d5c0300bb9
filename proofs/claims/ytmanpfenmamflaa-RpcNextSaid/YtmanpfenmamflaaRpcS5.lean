/-
  The law RpcCall: calls go to frames and back.
-/
import Derived.Test.YtmanpfenmamflaaRpcS2
import Derived.Test.YtmanpfenmamflaaRpcS3
import Derived.Test.YtmanpfenmamflaaRpcS4
import Derived.Test.YtmanpfenmamflaaRpcD
namespace Go.Proofs.Ytmanpfenmamflaa
open Go.RowKit

theorem rcall_any (c : PCall) (p d e t u : Sl) (w : World) (h : CallIs w w.heap.size c p d e t u) :
    Calls Try.prog 10 #[callV c p d e t u] w (FrRes w (frameO (callO c))) := by
  by_cases hbad : c.fn < 0 ∨ 255 < c.fn ∨ [c.ss, c.a, c.b, c.n, c.kd].all inHalf = false ∨ (65535 : Int) < c.param.length ∨ (65535 : Int) < c.more.length ∨ (65536 : Int) < c.data.length
  · exact rcall_no c p d e t u w h hbad
  · have h3 : ¬ [c.ss, c.a, c.b, c.n, c.kd].all inHalf = false := fun h => hbad (.inr (.inr (.inl h)))
    exact rcall_yes c p d e t u w h (fun h => hbad (.inl h)) (fun h => hbad (.inr (.inl h))) (by simpa using h3) (fun h => hbad (.inr (.inr (.inr (.inl h))))) (fun h => hbad (.inr (.inr (.inr (.inr (.inl h)))))) (fun h => hbad (.inr (.inr (.inr (.inr (.inr h))))))
set_option maxRecDepth 100000 in
set_option maxHeartbeats 4000000 in
theorem rpcCall_any (c : PCall) (p d e t u : Sl) (w : World) (h : CallIs w w.heap.size c p d e t u) :
    Calls Try.prog 3 #[callV c p d e t u] w fun r w' => r = .returned (.bool true) ∧ Below w.heap.size w w' := by
  obtain ⟨X, hX⟩ : ∃ X, w.heap.size = X := ⟨_, rfl⟩
  obtain ⟨C, hC⟩ : ∃ C, cutC c = C := ⟨_, rfl⟩
  have HX := Lib.hid (And.intro h (And.intro hX hC))
  clear h hC hX
  unfold callV
  go_enter Try.func3, Try.ntmps3
  go_wp2_with fail
  obtain ⟨wA, hwA⟩ : ∃ wA, w.alloc (.cells (callC c p d e t u) 27) = wA := ⟨_, rfl⟩
  have b1 : Blk wA X 27 (callC c p d e t u) := by rw [← hwA, ← HX.out.2.1]; exact Blk.new _ _ _
  have hbA : Below w.heap.size w wA := by rw [← hwA]; exact (Below.refl _ _).alloc (Nat.le_refl _) _
  have hsA : wA.heap.size = X + 1 := by rw [← hwA, ← HX.out.2.1]; simp
  have hXw := HX.out.2.1
  unfold callC at hwA
  rw [hwA, hXw]
  clear hwA
  have HA := Lib.hid (And.intro b1 (And.intro hbA hsA))
  clear b1 hbA hsA
  refine (begun_any wA).mono ?_
  rintro r1 w1 ⟨rfl, hb1⟩
  have c1 := HA.out.1.below hb1
  have q0 := c1.cell 0
  have q1 := c1.cell 1
  have q2 := c1.cell 2
  have q3 := c1.cell 3
  have q4 := c1.cell 4
  have q5 := c1.cell 5
  have q6 := c1.cell 6
  have q7 := c1.cell 7
  have q8 := c1.cell 8
  have q9 := c1.cell 9
  have q10 := c1.cell 10
  simp only [callC, List.getElem?_toArray, List.getElem?_cons_succ, List.getElem?_cons_zero] at q0 q1 q2 q3 q4 q5 q6 q7 q8 q9 q10
  have hB1 : Below X w w1 := by rw [← hXw]; exact HA.out.2.1.trans (hb1.mono HA.out.2.1.size)
  have hs1 : X + 1 ≤ w1.heap.size := by have := hb1.size; have := HA.out.2.2; omega
  have hI1 : CallIs w1 X c p d e t u := by rw [← hXw]; exact HX.out.1.old (by rw [hXw]; exact hB1)
  have H1 := Lib.hid (And.intro c1 (And.intro hB1 (And.intro hs1 hI1)))
  clear c1 hb1 hB1 hs1 hI1 hXw
  go_wp2_with fail
  have hcut := cut25_any c p d e t u X w1 (by have := H1.out.2.2.1; omega) H1.out.2.2.2
  rw [HX.out.2.2] at hcut
  unfold callV at hcut
  refine hcut.mono ?_
  rintro r2 w2 ⟨p', d', e', t', u', rfl, hk, hb2⟩
  clear hcut q0 q1 q2 q3 q4 q5 q6 q7 q8 q9 q10
  have H2 := Lib.hid (And.intro hk (And.intro hb2 (H1.out.1.below hb2)))
  clear hk hb2
  go_wp2_with (refine wpList_store_arr rfl 27 (.tmp 1) (.tmp 12) rfl X 27 _ [.int .i64 C.fn, .int .i64 C.ss, .int .i64 C.a, .int .i64 C.b, .int .i64 C.n, .int .i64 C.kd, .slice p'.A p'.m p'.c, .slice d'.A d'.m d'.c, .slice e'.A e'.m e'.c, .slice t'.A t'.m t'.c, .slice u'.A u'.m u'.c] H2.out.2.2 rfl rfl (by kernel_rfl) rfl rfl ?_; intro w3 hB3 hT3; have H3 := Lib.hid (And.intro hB3 hT3); have c3 : Blk w3 X 27 (callC C p' d' e' t' u') := hB3; have q0 := c3.cell 0; have q1 := c3.cell 1; have q2 := c3.cell 2; have q3 := c3.cell 3; have q4 := c3.cell 4; have q5 := c3.cell 5; have q6 := c3.cell 6; have q7 := c3.cell 7; have q8 := c3.cell 8; have q9 := c3.cell 9; have q10 := c3.cell 10; simp only [callC, List.getElem?_toArray, List.getElem?_cons_succ, List.getElem?_cons_zero] at q0 q1 q2 q3 q4 q5 q6 q7 q8 q9 q10; clear hB3 hT3 c3)
  clear q0 q1 q2 q3 q4 q5 q6 q7 q8 q9 q10
  have hI3 : CallIs w3 w3.heap.size C p' d' e' t' u' := H2.out.1 X w3 (Nat.le_refl _) (by have := H1.out.2.2.1; omega) H3.out.2
  have hB3 : Below X w w3 := below_turn (H1.out.2.1.trans (H2.out.2.1.mono (by have := H1.out.2.2.1; omega))) H3.out.2 (by simp) (by have := H1.out.2.2.1; have := H2.out.2.1.size; omega)
  have hX3 : X < w3.heap.size := H3.out.1.lt
  have HI3 := Lib.hid (And.intro hI3 (And.intro hB3 hX3))
  clear hI3 hB3 hX3
  have hc1 := call_o C p' d' e' t' u' w3 HI3.out.1
  unfold callV at hc1
  refine hc1.mono ?_
  rintro r4 w4 ⟨hb4, hres4⟩
  clear hc1
  have c4 : Blk w4 X 27 (callC C p' d' e' t' u') := Blk.below H3.out.1 hb4
  have q0 := c4.cell 0
  have q1 := c4.cell 1
  have q2 := c4.cell 2
  have q3 := c4.cell 3
  have q4 := c4.cell 4
  have q5 := c4.cell 5
  have q6 := c4.cell 6
  have q7 := c4.cell 7
  have q8 := c4.cell 8
  have q9 := c4.cell 9
  have q10 := c4.cell 10
  simp only [callC, List.getElem?_toArray, List.getElem?_cons_succ, List.getElem?_cons_zero] at q0 q1 q2 q3 q4 q5 q6 q7 q8 q9 q10
  have HI4 := Lib.hid (And.intro ((HI3.out.1.old hb4).mono hb4.size) (And.intro (HI3.out.2.1.trans (hb4.mono (by have := HI3.out.2.2; omega))) (And.intro c4 hb4)))
  clear hb4 c4
  obtain ⟨R, hR⟩ : ∃ R, frameO (callO C) = R := ⟨_, rfl⟩
  rw [hR] at hres4
  have hc2 := rcall_any C p' d' e' t' u' w4 HI4.out.1
  unfold callV at hc2
  rw [hR] at hc2
  have HC2 := Lib.hid hc2
  have HR := Lib.hid hR
  clear hc2 hR
  rcases hres4 with ⟨hn, rfl⟩ | ⟨f, hf, A4, n4, c4, rfl, hO4⟩
  · subst hn
    go_wp2_with fail
    refine HC2.out.mono ?_
    rintro r5 w5 ⟨hb5, hres5⟩
    rcases hres5 with ⟨_, rfl⟩ | ⟨f, hf, _⟩
    rotate_left
    · cases hf
    have hs5 := toStr_nil w5 0 0
    have H5 := Lib.hid (HI4.out.2.1.trans (hb5.mono (by have := HI4.out.2.1.size; have := HI3.out.2.2; have := HI4.out.2.2.2.size; omega)))
    clear hb5 q0 q1 q2 q3 q4 q5 q6 q7 q8 q9 q10
    go_wp2_with fail
    go_ret
    exact ⟨rfl, by rw [HX.out.2.1]; exact H5.out⟩
  · subst hf
    have HO4 := Lib.hid hO4
    clear hO4
    go_wp2_with fail
    refine HC2.out.mono ?_
    rintro r5 w5 ⟨hb5, hres5⟩
    rcases hres5 with ⟨hn, _⟩ | ⟨f', hf, A5, n5, c5, rfl, hO5⟩
    · cases hn
    injection hf with hf
    subst hf
    obtain ⟨hrc1, hrc2, hfl⟩ := rc_read C f HR.out
    have hn4 : n4 = f.length := HO4.out.len
    have h4f : 4 ≤ n4 := by
      rw [hn4]
      have := HR.out
      unfold frameO at this
      cases hcc : callO C with
      | none => rw [hcc] at this; cases this
      | some y =>
        rw [hcc, Option.bind_some] at this
        split at this
        · cases this
        · injection this with this; rw [← this, List.length_append, num_len _ _ (by omega)]; omega
    have s4 := (HO4.out.below hb5).rd.str
    have s5 := hO5.rd.str
    obtain ⟨A6, n6, c6, hn6, hsl, hr6, _⟩ := (HO4.out.below hb5).rd.cut_ex2 (k := 4) h4f
    have hsl5 := hsl w5
    rw [show ((4 : Nat) : Int) = 4 from rfl] at hsl5
    have hs45 : w4.heap.size ≤ w5.heap.size := hb5.size
    have H5 := Lib.hid (And.intro (HI4.out.2.1.trans (hb5.mono (by have := HI4.out.2.2.2.size; have := HI3.out.2.2; omega))) (And.intro hr6 (And.intro ((HI4.out.1.old hb5).mono hb5.size) (HI4.out.2.2.1.below hb5))))
    have HF := Lib.hid (And.intro hrc1 (And.intro hrc2 hfl))
    have H45 := Lib.hid hs45
    have H4f := Lib.hid h4f
    have h4i : (4 : Int) ≤ n4 := by omega
    have hz5 : X < w5.heap.size := by have := HI3.out.2.2; have := HI4.out.2.2.2.size; omega
    have Hz5 := Lib.hid hz5
    clear hb5 hO5 hrc1 hrc2 hfl hn4 h4f hsl hr6 hn6 hs45 hz5 q0 q1 q2 q3 q4 q5 q6 q7 q8 q9 q10
    go_wp2_with fail
    refine (readCall_any A6 n6 c6 (f.drop 4) w5 H5.out.2.1 (by rw [List.length_drop]; have := HF.out.2.2; omega)).mono ?_
    rintro r6 w6 ⟨hb6, D, sp, sd, se, st, su, rfl, hI6, hD⟩
    rw [HF.out.1, if_pos rfl, HF.out.2.1] at hD
    subst hD
    rw [HF.out.1]
    unfold callV
    have c6 := H5.out.2.2.2.below hb6
    have q0 := c6.cell 0
    have q1 := c6.cell 1
    have q2 := c6.cell 2
    have q3 := c6.cell 3
    have q4 := c6.cell 4
    have q5 := c6.cell 5
    have q6 := c6.cell 6
    have q7 := c6.cell 7
    have q8 := c6.cell 8
    have q9 := c6.cell 9
    have q10 := c6.cell 10
    simp only [callC, List.getElem?_toArray, List.getElem?_cons_succ, List.getElem?_cons_zero] at q0 q1 q2 q3 q4 q5 q6 q7 q8 q9 q10
    have hz6 : X < w6.heap.size := by have := Hz5.out; have := hb6.size; omega
    have H6 := Lib.hid (And.intro hI6 (And.intro ((H5.out.2.2.1.old hb6).mono hb6.size) (H5.out.1.trans (hb6.mono (by have := Hz5.out; omega)))))
    clear hb6 hI6 c6 s4 s5 hsl5
    go_wp2_with fail
    obtain ⟨w7, hw7⟩ : ∃ w7, w6.alloc (.cells (callC D sp sd se st su) 27) = w7 := ⟨_, rfl⟩
    have hb7 : Below w6.heap.size w6 w7 := by rw [← hw7]; exact (Below.refl _ _).alloc (Nat.le_refl _) _
    have heq := eq25_any D sp sd se st su p' d' e' t' u' w7 ((H6.out.1.old hb7).mono hb7.size) ((H6.out.2.1.old hb7).mono hb7.size)
    unfold callV at heq
    unfold callC at hw7
    rw [hw7]
    have H7 := Lib.hid (H6.out.2.2.trans (hb7.mono (by omega)))
    clear hb7 hw7
    refine heq.mono ?_
    rintro r8 w8 ⟨rfl, hb8⟩
    have H8 := Lib.hid (H7.out.trans (hb8.mono (by have := H7.out.size; have := HX.out.2.1; omega)))
    clear hb8 heq q0 q1 q2 q3 q4 q5 q6 q7 q8 q9 q10
    go_wp2_with fail
    go_ret
    exact ⟨rfl, by rw [HX.out.2.1]; exact H8.out⟩
end Go.Proofs.Ytmanpfenmamflaa
