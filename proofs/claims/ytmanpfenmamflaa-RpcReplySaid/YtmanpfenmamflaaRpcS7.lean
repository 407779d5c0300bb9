/-
  The law RpcReply: replies go to frames and back.
-/
import Derived.Test.YtmanpfenmamflaaRpcS4
import Derived.Test.YtmanpfenmamflaaRpcS6
import Derived.Test.YtmanpfenmamflaaRpcR6
import Derived.Test.YtmanpfenmamflaaRpcA2
import Derived.Test.YtmanpfenmamflaaRpcD
namespace Go.Proofs.Ytmanpfenmamflaa
open Go.RowKit

theorem IntsAt.short {W : World} {base : Nat} {s : Sl} {l : List Int} (h : IntsAt W base s l) (k : Nat) (hk : k ≤ s.m) : IntsAt W base ⟨s.A, k, s.c⟩ (l.take k) := by
  obtain ⟨h1, h2, h3, h4⟩ := h
  refine ⟨by show (l.take k).length = k; rw [List.length_take]; omega, Nat.le_trans hk h2, h3, ?_⟩
  rcases h4 with h4 | ⟨b, off, hA, hb, hb', h4⟩
  · left; show k = 0; omega
  · right
    refine ⟨b, off, hA, hb, hb', fun j x hj => h4 j x ?_⟩
    rw [List.getElem?_take] at hj
    split at hj
    · exact hj
    · cases hj
def cutR (c : PRep) : PRep := ⟨c.rv, c.a, c.b, c.data.take 300, c.list.take 1100, cutL c.attrs 14 100⟩
theorem cutR_eqs (c : PRep) : (cutR c).rv = c.rv ∧ (cutR c).a = c.a ∧ (cutR c).b = c.b ∧ (cutR c).data = c.data.take 300 ∧ (cutR c).list = c.list.take 1100 ∧ (cutR c).attrs = cutL c.attrs 14 100 := by
  unfold cutR
  refine ⟨?_, ?_, ?_, ?_, ?_, ?_⟩ <;> dsimp only
set_option maxRecDepth 100000 in
set_option maxHeartbeats 4000000 in
theorem rpcReply_any (c : PRep) (d e t : Sl) (w : World) (h : RepIs w w.heap.size c d e t) :
    Calls Try.prog 6 #[repV c d e t] w fun r w' => r = .returned (.bool true) ∧ Below w.heap.size w w' := by
  obtain ⟨X, hX⟩ : ∃ X, w.heap.size = X := ⟨_, rfl⟩
  obtain ⟨k1, k2, k3, k4, k5, k6⟩ := cutR_eqs c
  obtain ⟨C, hC⟩ : ∃ C, cutR c = C := ⟨_, rfl⟩
  rw [hC] at k1 k2 k3 k4 k5 k6
  have HX := Lib.hid (And.intro h (And.intro hX hC))
  have HK := Lib.hid (And.intro k1 (And.intro k2 (And.intro k3 (And.intro k4 (And.intro k5 k6)))))
  clear h hC hX k1 k2 k3 k4 k5 k6
  unfold repV
  go_enter Try.func6, Try.ntmps6
  go_wp2_with fail
  obtain ⟨wA, hwA⟩ : ∃ wA, w.alloc (.cells (repC c d e t) 48) = wA := ⟨_, rfl⟩
  have b1 : Blk wA X 48 (repC c d e t) := by rw [← hwA, ← HX.out.2.1]; exact Blk.new _ _ _
  have hbA : Below w.heap.size w wA := by rw [← hwA]; exact (Below.refl _ _).alloc (Nat.le_refl _) _
  have hsA : wA.heap.size = X + 1 := by rw [← hwA, ← HX.out.2.1]; simp
  have hXw := HX.out.2.1
  unfold repC at hwA
  rw [hwA, hXw]
  clear hwA
  have HA := Lib.hid (And.intro b1 (And.intro hbA hsA))
  clear b1 hbA hsA
  refine (begun_any wA).mono ?_
  rintro r1 w1 ⟨rfl, hb1⟩
  have c1 := HA.out.1.below hb1
  have q3 := c1.cell 3
  have f3 := c1.frozen 3
  simp only [repC, List.getElem?_toArray, List.getElem?_cons_succ, List.getElem?_cons_zero] at q3
  have hB1 : Below X w w1 := by rw [← hXw]; exact HA.out.2.1.trans (hb1.mono HA.out.2.1.size)
  have hs1 : X + 1 ≤ w1.heap.size := by have := hb1.size; have := HA.out.2.2; omega
  have hI1 : RepIs w1 X c d e t := by rw [← hXw]; exact HX.out.1.old (by rw [hXw]; exact hB1)
  have H1 := Lib.hid (And.intro c1 (And.intro hB1 (And.intro hs1 hI1)))
  clear c1 hb1 hB1 hs1 hI1 hXw
  go_wp2_with fail
  refine (short_E d.A d.m d.c 300 c.data w1 H1.out.2.2.2.hd.e (by omega)).mono ?_
  rintro r2 w2 ⟨rfl, hw2⟩
  subst hw2
  have q5 := H1.out.1.cell 5
  simp only [repC, List.getElem?_toArray, List.getElem?_cons_succ, List.getElem?_cons_zero] at q5
  go_wp2_with fail
  obtain ⟨wB, hwB⟩ : ∃ wB, w1.setCell ⟨X, 3, none⟩ (.slice d.A (min d.m 300) d.c) = wB := ⟨_, rfl⟩
  have hTB : Turn [X] w1 wB := by rw [← hwB]; exact (Turn.refl _ _).setCell (.inl (by simp)) _
  have b2 : Blk wB X 48 #[.int .i64 c.rv, .int .i64 c.a, .int .i64 c.b, .slice d.A (min d.m 300) d.c, .slice e.A e.m e.c, .slice t.A t.m t.c] := by
    rw [← hwB]
    have := H1.out.1.set_ 3 (.slice d.A (min d.m 300) d.c)
    simpa [repC] using this
  have hbB : Below X w wB := below_turn H1.out.2.1 hTB (by simp) (by have := H1.out.2.2.1; omega)
  have hsB : X + 1 ≤ wB.heap.size := by have := hTB.size; have := H1.out.2.2.1; omega
  have hIB : RepIs wB X c d e t := H1.out.2.2.2.old (below_turn (Below.refl _ _) hTB (by simp) (by have := H1.out.2.2.1; omega))
  rw [hwB]
  have HB := Lib.hid (And.intro b2 (And.intro hbB (And.intro hsB hIB)))
  clear hwB hTB b2 hbB hsB hIB q3 f3 q5
  refine (cut17_any t.A t.m t.c 14 100 c.attrs wB (HB.out.2.2.2.ht.mono (by have := HB.out.2.2.1; omega)) HB.out.2.2.2.tm (by omega) (by omega)).mono ?_
  rintro r3 w3 ⟨s1, rfl, hO1, hb3⟩
  have b3 := HB.out.1.below hb3
  have q0 := b3.cell 0
  have q1 := b3.cell 1
  have q2 := b3.cell 2
  have q3 := b3.cell 3
  have q4 := b3.cell 4
  have q5 := b3.cell 5
  simp only [repC, List.getElem?_toArray, List.getElem?_cons_succ, List.getElem?_cons_zero] at q0 q1 q2 q3 q4 q5
  have f5 := b3.frozen 5
  have f4 := b3.frozen 4
  have hem : (e.m : Int) ≤ 9223372036854775807 := by have h1 := HB.out.2.2.2.he.2.1; have h2 := HB.out.2.2.2.he.2.2.1; unfold maxLen at h2; omega
  have H3 := Lib.hid (And.intro hO1 (And.intro hb3 b3))
  clear hO1 hb3 b3
  by_cases hbig : 1100 < e.m
  · have hbi : (1100 : Int) < (e.m : Int) := by omega
    have hbd : decide ((1100 : Int) < (e.m : Int)) = true := decide_eq_true hbi
    have hsl := slice_toI e.A e.m e.c 1100 (by have := HB.out.2.2.2.he.2.1; omega) (w3.setCell ⟨X, 5, none⟩ (.slice s1.A s1.m s1.c))
    rw [show ((1100 : Nat) : Int) = 1100 from rfl] at hsl
    go_wp2_with fail
    obtain ⟨wD, hwD⟩ : ∃ wD, (w3.setCell ⟨X, 5, none⟩ (.slice s1.A s1.m s1.c)).setCell ⟨X, 4, none⟩ (.slice e.A 1100 e.c) = wD := ⟨_, rfl⟩
    have hTD : Turn [X] w3 wD := by rw [← hwD]; exact ((Turn.refl _ _).setCell (.inl (by simp)) _).setCell (.inl (by simp)) _
    have bD : Blk wD X 48 (repC C ⟨d.A, min d.m 300, d.c⟩ ⟨e.A, 1100, e.c⟩ s1) := by
      unfold repC
      rw [← hwD, HK.out.1, HK.out.2.1, HK.out.2.2.1]
      have := (H3.out.2.2.set_ 5 (.slice s1.A s1.m s1.c)).set_ 4 (.slice e.A 1100 e.c)
      simpa using this
    have hs3 : X + 1 ≤ w3.heap.size := by have := H3.out.2.1.size; have := HB.out.2.2.1; omega
    have hsD : X < wD.heap.size := by have := hTD.size; omega
    have hbD : Below X w wD := below_turn (HB.out.2.1.trans (H3.out.2.1.mono (by have := HB.out.2.2.1; omega))) hTD (by simp) (by omega)
    have hID : RepIs wD X c d e t := HB.out.2.2.2.old (below_turn (H3.out.2.1.mono (by have := HB.out.2.2.1; omega)) hTD (by simp) (by omega))
    have hO1 : OwnAts wD (X + 1) s1 C.attrs := by rw [HK.out.2.2.2.2.2]; exact (H3.out.1.mono HB.out.2.2.1).turn hTD (by simp)
    have hIC : RepIs wD wD.heap.size C ⟨d.A, min d.m 300, d.c⟩ ⟨e.A, 1100, e.c⟩ s1 := by
      refine ⟨?_, ?_, hO1.at_, hO1.max⟩
      · rw [HK.out.2.2.2.1]; exact (hID.hd.short 300).mono (by omega)
      · rw [HK.out.2.2.2.2.1]; exact (hID.he.short 1100 (by omega)).mono (by omega)
    rw [hwD, ← HK.out.1, ← HK.out.2.1, ← HK.out.2.2.1]
    obtain ⟨d', hd'⟩ : ∃ d' : Sl, (⟨d.A, min d.m 300, d.c⟩ : Sl) = d' := ⟨_, rfl⟩
    have HI3 := Lib.hid (And.intro hIC (And.intro hbD (And.intro hsD bD)))
    clear hwD hTD bD hs3 hsD hbD hID hO1 hIC q0 q1 q2 q3 q4 q5 f5 f4 hem hbi hbd hsl hd'
    have hc1 := reply_o C ⟨d.A, min d.m 300, d.c⟩ ⟨e.A, 1100, e.c⟩ s1 wD HI3.out.1
    unfold repV at hc1
    refine hc1.mono ?_
    rintro r4 w4 ⟨hb4, hres4⟩
    clear hc1
    have c4 := HI3.out.2.2.2.below hb4
    have q0 := c4.cell 0
    have q1 := c4.cell 1
    have q2 := c4.cell 2
    have q3 := c4.cell 3
    have q4 := c4.cell 4
    have q5 := c4.cell 5
    simp only [repC, List.getElem?_toArray, List.getElem?_cons_succ, List.getElem?_cons_zero] at q0 q1 q2 q3 q4 q5
    have HI4 := Lib.hid (And.intro ((HI3.out.1.old hb4).mono hb4.size) (And.intro (HI3.out.2.1.trans (hb4.mono (by have := HI3.out.2.2.1; omega))) (And.intro c4 (show X < w4.heap.size by have := hb4.size; have := HI3.out.2.2.1; omega))))
    clear hb4 c4
    obtain ⟨R, hR⟩ : ∃ R, frameO (replyO C) = R := ⟨_, rfl⟩
    rw [hR] at hres4
    have hc2 := rreply_any C ⟨d.A, min d.m 300, d.c⟩ ⟨e.A, 1100, e.c⟩ s1 w4 HI4.out.1
    unfold repV at hc2
    rw [hR] at hc2
    have HC2 := Lib.hid hc2
    have HR := Lib.hid hR
    clear hc2 hR
    rcases hres4 with ⟨hn, rfl⟩ | ⟨f, hf, A4, n4, c4, rfl, hO4⟩
    · subst hn
      go_wp2_with fail
      refine HC2.out.mono ?_
      rintro r5 w5 ⟨hb5, hres5⟩
      rcases hres5 with ⟨_, rfl⟩ | ⟨f, hf, _⟩
      rotate_left
      · cases hf
      have hs5 := toStr_nil w5 0 0
      have H5 := Lib.hid (HI4.out.2.1.trans (hb5.mono (by have := HI4.out.2.2.2; omega)))
      clear hb5 q0 q1 q2 q3 q4 q5
      go_wp2_with fail
      go_ret
      exact ⟨rfl, by rw [HX.out.2.1]; exact H5.out⟩
    · subst hf
      have HO4 := Lib.hid hO4
      clear hO4
      go_wp2_with fail
      refine HC2.out.mono ?_
      rintro r5 w5 ⟨hb5, hres5⟩
      rcases hres5 with ⟨hn, _⟩ | ⟨f', hf, A5, n5, c5, rfl, hO5⟩
      · cases hn
      injection hf with hf
      subst hf
      obtain ⟨hrc1, hrc2, hfl⟩ := rr_read C f HR.out
      have hn4 : n4 = f.length := HO4.out.len
      have h4f : 4 ≤ n4 := by
        rw [hn4]
        have := HR.out
        unfold frameO at this
        cases hcc : replyO C with
        | none => rw [hcc] at this; cases this
        | some y =>
          rw [hcc, Option.bind_some] at this
          split at this
          · cases this
          · injection this with this; rw [← this, List.length_append, num_len _ _ (by omega)]; omega
      have s4 := (HO4.out.below hb5).rd.str
      have s5 := hO5.rd.str
      obtain ⟨A6, n6, c6, hn6, hsl, hr6, _⟩ := (HO4.out.below hb5).rd.cut_ex2 (k := 4) h4f
      have hsl5 := hsl w5
      rw [show ((4 : Nat) : Int) = 4 from rfl] at hsl5
      have H5 := Lib.hid (And.intro (HI4.out.2.1.trans (hb5.mono (by have := HI4.out.2.2.2; omega))) (And.intro hr6 (And.intro ((HI4.out.1.old hb5).mono hb5.size) (And.intro (HI4.out.2.2.1.below hb5) (show X < w5.heap.size by have := hb5.size; have := HI4.out.2.2.2; omega)))))
      have HF := Lib.hid (And.intro hrc1 (And.intro hrc2 hfl))
      have H4f := Lib.hid h4f
      have h4i : (4 : Int) ≤ n4 := by omega
      clear hb5 hO5 hrc1 hrc2 hfl hn4 h4f hsl hr6 hn6 q0 q1 q2 q3 q4 q5
      go_wp2_with fail
      refine (readReply_any A6 n6 c6 (f.drop 4) w5 H5.out.2.1 (by rw [List.length_drop]; have := HF.out.2.2; omega)).mono ?_
      rintro r6 w6 ⟨hb6, D, sd, se, st, rfl, hI6, hD⟩
      rw [HF.out.1, if_pos rfl, HF.out.2.1] at hD
      subst hD
      rw [HF.out.1]
      unfold repV
      have c6 := H5.out.2.2.2.1.below hb6
      have q0 := c6.cell 0
      have q1 := c6.cell 1
      have q2 := c6.cell 2
      have q3 := c6.cell 3
      have q4 := c6.cell 4
      have q5 := c6.cell 5
      simp only [repC, List.getElem?_toArray, List.getElem?_cons_succ, List.getElem?_cons_zero] at q0 q1 q2 q3 q4 q5
      have hz6 : X < w6.heap.size := by have := H5.out.2.2.2.2; have := hb6.size; omega
      have H6 := Lib.hid (And.intro hI6 (And.intro ((H5.out.2.2.1.old hb6).mono hb6.size) (H5.out.1.trans (hb6.mono (by have := H5.out.2.2.2.2; omega)))))
      clear hb6 hI6 c6 s4 s5 hsl5
      go_wp2_with fail
      obtain ⟨w7, hw7⟩ : ∃ w7, w6.alloc (.cells (repC D sd se st) 48) = w7 := ⟨_, rfl⟩
      have hb7 : Below w6.heap.size w6 w7 := by rw [← hw7]; exact (Below.refl _ _).alloc (Nat.le_refl _) _
      have heq := eq26_any D sd se st ⟨d.A, min d.m 300, d.c⟩ ⟨e.A, 1100, e.c⟩ s1 w7 ((H6.out.1.old hb7).mono hb7.size) ((H6.out.2.1.old hb7).mono hb7.size)
      unfold repV at heq
      unfold repC at hw7
      rw [hw7]
      have H7 := Lib.hid (H6.out.2.2.trans (hb7.mono (by omega)))
      clear hb7 hw7
      refine heq.mono ?_
      rintro r8 w8 ⟨rfl, hb8⟩
      have H8 := Lib.hid (H7.out.trans (hb8.mono (by have := H7.out.size; have := HX.out.2.1; omega)))
      clear hb8 heq q0 q1 q2 q3 q4 q5
      go_wp2_with fail
      go_ret
      exact ⟨rfl, by rw [HX.out.2.1]; exact H8.out⟩
  · have hbi : ¬ (1100 : Int) < (e.m : Int) := by omega
    have hbd : decide ((1100 : Int) < (e.m : Int)) = false := decide_eq_false hbi
    go_wp2_with fail
    obtain ⟨wD, hwD⟩ : ∃ wD, w3.setCell ⟨X, 5, none⟩ (.slice s1.A s1.m s1.c) = wD := ⟨_, rfl⟩
    have hTD : Turn [X] w3 wD := by rw [← hwD]; exact (Turn.refl _ _).setCell (.inl (by simp)) _
    have bD : Blk wD X 48 (repC C ⟨d.A, min d.m 300, d.c⟩ ⟨e.A, e.m, e.c⟩ s1) := by
      unfold repC
      rw [← hwD, HK.out.1, HK.out.2.1, HK.out.2.2.1]
      have := H3.out.2.2.set_ 5 (.slice s1.A s1.m s1.c)
      simpa using this
    have hs3 : X + 1 ≤ w3.heap.size := by have := H3.out.2.1.size; have := HB.out.2.2.1; omega
    have hsD : X < wD.heap.size := by have := hTD.size; omega
    have hbD : Below X w wD := below_turn (HB.out.2.1.trans (H3.out.2.1.mono (by have := HB.out.2.2.1; omega))) hTD (by simp) (by omega)
    have hID : RepIs wD X c d e t := HB.out.2.2.2.old (below_turn (H3.out.2.1.mono (by have := HB.out.2.2.1; omega)) hTD (by simp) (by omega))
    have hO1 : OwnAts wD (X + 1) s1 C.attrs := by rw [HK.out.2.2.2.2.2]; exact (H3.out.1.mono HB.out.2.2.1).turn hTD (by simp)
    have hIC : RepIs wD wD.heap.size C ⟨d.A, min d.m 300, d.c⟩ ⟨e.A, e.m, e.c⟩ s1 := by
      refine ⟨?_, ?_, hO1.at_, hO1.max⟩
      · rw [HK.out.2.2.2.1]; exact (hID.hd.short 300).mono (by omega)
      · rw [HK.out.2.2.2.2.1, List.take_of_length_le (by have := hID.he.1; omega)]; exact hID.he.mono (by omega)
    rw [hwD, ← HK.out.1, ← HK.out.2.1, ← HK.out.2.2.1]
    obtain ⟨d', hd'⟩ : ∃ d' : Sl, (⟨d.A, min d.m 300, d.c⟩ : Sl) = d' := ⟨_, rfl⟩
    have HI3 := Lib.hid (And.intro hIC (And.intro hbD (And.intro hsD bD)))
    clear hwD hTD bD hs3 hsD hbD hID hO1 hIC q0 q1 q2 q3 q4 q5 f5 f4 hem hbi hbd hd'
    have hc1 := reply_o C ⟨d.A, min d.m 300, d.c⟩ ⟨e.A, e.m, e.c⟩ s1 wD HI3.out.1
    unfold repV at hc1
    refine hc1.mono ?_
    rintro r4 w4 ⟨hb4, hres4⟩
    clear hc1
    have c4 := HI3.out.2.2.2.below hb4
    have q0 := c4.cell 0
    have q1 := c4.cell 1
    have q2 := c4.cell 2
    have q3 := c4.cell 3
    have q4 := c4.cell 4
    have q5 := c4.cell 5
    simp only [repC, List.getElem?_toArray, List.getElem?_cons_succ, List.getElem?_cons_zero] at q0 q1 q2 q3 q4 q5
    have HI4 := Lib.hid (And.intro ((HI3.out.1.old hb4).mono hb4.size) (And.intro (HI3.out.2.1.trans (hb4.mono (by have := HI3.out.2.2.1; omega))) (And.intro c4 (show X < w4.heap.size by have := hb4.size; have := HI3.out.2.2.1; omega))))
    clear hb4 c4
    obtain ⟨R, hR⟩ : ∃ R, frameO (replyO C) = R := ⟨_, rfl⟩
    rw [hR] at hres4
    have hc2 := rreply_any C ⟨d.A, min d.m 300, d.c⟩ ⟨e.A, e.m, e.c⟩ s1 w4 HI4.out.1
    unfold repV at hc2
    rw [hR] at hc2
    have HC2 := Lib.hid hc2
    have HR := Lib.hid hR
    clear hc2 hR
    rcases hres4 with ⟨hn, rfl⟩ | ⟨f, hf, A4, n4, c4, rfl, hO4⟩
    · subst hn
      go_wp2_with fail
      refine HC2.out.mono ?_
      rintro r5 w5 ⟨hb5, hres5⟩
      rcases hres5 with ⟨_, rfl⟩ | ⟨f, hf, _⟩
      rotate_left
      · cases hf
      have hs5 := toStr_nil w5 0 0
      have H5 := Lib.hid (HI4.out.2.1.trans (hb5.mono (by have := HI4.out.2.2.2; omega)))
      clear hb5 q0 q1 q2 q3 q4 q5
      go_wp2_with fail
      go_ret
      exact ⟨rfl, by rw [HX.out.2.1]; exact H5.out⟩
    · subst hf
      have HO4 := Lib.hid hO4
      clear hO4
      go_wp2_with fail
      refine HC2.out.mono ?_
      rintro r5 w5 ⟨hb5, hres5⟩
      rcases hres5 with ⟨hn, _⟩ | ⟨f', hf, A5, n5, c5, rfl, hO5⟩
      · cases hn
      injection hf with hf
      subst hf
      obtain ⟨hrc1, hrc2, hfl⟩ := rr_read C f HR.out
      have hn4 : n4 = f.length := HO4.out.len
      have h4f : 4 ≤ n4 := by
        rw [hn4]
        have := HR.out
        unfold frameO at this
        cases hcc : replyO C with
        | none => rw [hcc] at this; cases this
        | some y =>
          rw [hcc, Option.bind_some] at this
          split at this
          · cases this
          · injection this with this; rw [← this, List.length_append, num_len _ _ (by omega)]; omega
      have s4 := (HO4.out.below hb5).rd.str
      have s5 := hO5.rd.str
      obtain ⟨A6, n6, c6, hn6, hsl, hr6, _⟩ := (HO4.out.below hb5).rd.cut_ex2 (k := 4) h4f
      have hsl5 := hsl w5
      rw [show ((4 : Nat) : Int) = 4 from rfl] at hsl5
      have H5 := Lib.hid (And.intro (HI4.out.2.1.trans (hb5.mono (by have := HI4.out.2.2.2; omega))) (And.intro hr6 (And.intro ((HI4.out.1.old hb5).mono hb5.size) (And.intro (HI4.out.2.2.1.below hb5) (show X < w5.heap.size by have := hb5.size; have := HI4.out.2.2.2; omega)))))
      have HF := Lib.hid (And.intro hrc1 (And.intro hrc2 hfl))
      have H4f := Lib.hid h4f
      have h4i : (4 : Int) ≤ n4 := by omega
      clear hb5 hO5 hrc1 hrc2 hfl hn4 h4f hsl hr6 hn6 q0 q1 q2 q3 q4 q5
      go_wp2_with fail
      refine (readReply_any A6 n6 c6 (f.drop 4) w5 H5.out.2.1 (by rw [List.length_drop]; have := HF.out.2.2; omega)).mono ?_
      rintro r6 w6 ⟨hb6, D, sd, se, st, rfl, hI6, hD⟩
      rw [HF.out.1, if_pos rfl, HF.out.2.1] at hD
      subst hD
      rw [HF.out.1]
      unfold repV
      have c6 := H5.out.2.2.2.1.below hb6
      have q0 := c6.cell 0
      have q1 := c6.cell 1
      have q2 := c6.cell 2
      have q3 := c6.cell 3
      have q4 := c6.cell 4
      have q5 := c6.cell 5
      simp only [repC, List.getElem?_toArray, List.getElem?_cons_succ, List.getElem?_cons_zero] at q0 q1 q2 q3 q4 q5
      have hz6 : X < w6.heap.size := by have := H5.out.2.2.2.2; have := hb6.size; omega
      have H6 := Lib.hid (And.intro hI6 (And.intro ((H5.out.2.2.1.old hb6).mono hb6.size) (H5.out.1.trans (hb6.mono (by have := H5.out.2.2.2.2; omega)))))
      clear hb6 hI6 c6 s4 s5 hsl5
      go_wp2_with fail
      obtain ⟨w7, hw7⟩ : ∃ w7, w6.alloc (.cells (repC D sd se st) 48) = w7 := ⟨_, rfl⟩
      have hb7 : Below w6.heap.size w6 w7 := by rw [← hw7]; exact (Below.refl _ _).alloc (Nat.le_refl _) _
      have heq := eq26_any D sd se st ⟨d.A, min d.m 300, d.c⟩ ⟨e.A, e.m, e.c⟩ s1 w7 ((H6.out.1.old hb7).mono hb7.size) ((H6.out.2.1.old hb7).mono hb7.size)
      unfold repV at heq
      unfold repC at hw7
      rw [hw7]
      have H7 := Lib.hid (H6.out.2.2.trans (hb7.mono (by omega)))
      clear hb7 hw7
      refine heq.mono ?_
      rintro r8 w8 ⟨rfl, hb8⟩
      have H8 := Lib.hid (H7.out.trans (hb8.mono (by have := H7.out.size; have := HX.out.2.1; omega)))
      clear hb8 heq q0 q1 q2 q3 q4 q5
      go_wp2_with fail
      go_ret
      exact ⟨rfl, by rw [HX.out.2.1]; exact H8.out⟩
end Go.Proofs.Ytmanpfenmamflaa
