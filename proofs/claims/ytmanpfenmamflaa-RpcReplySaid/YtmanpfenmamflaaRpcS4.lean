/-
  The laws' Cut of a call.
-/
import Derived.Test.YtmanpfenmamflaaRpcS1
import Derived.Test.YtmanpfenmamflaaRpcE
namespace Go.Proofs.Ytmanpfenmamflaa
open Go.RowKit

def cutC (c : PCall) : PCall := ⟨c.fn, c.ss, c.a, c.b, c.n, c.kd, c.param.take 300, c.data.take 400, c.more.take 200, cutL c.t1 14 300, cutL c.t2 14 300⟩
theorem RdB.short {W : World} {base : Nat} {A : Option Addr} {m c : Nat} {l : List UInt8} (h : RdB W base A m c l) (n : Nat) : RdB W base A (min m n) c (l.take n) := by
  rcases h with ⟨h, h1⟩ | ⟨rfl, rfl, rfl⟩
  · exact .inl ⟨h.short, h1⟩
  · exact .inr ⟨by simp, rfl, by simp⟩
set_option maxRecDepth 100000 in
set_option maxHeartbeats 4000000 in
theorem cut25_any (c : PCall) (p d e t u : Sl) (B : Nat) (w : World) (hBw : B ≤ w.heap.size) (h : CallIs w B c p d e t u) :
    Calls Try.prog 8 #[callV c p d e t u] w fun r w' => ∃ p' d' e' t' u', r = .returned (callV (cutC c) p' d' e' t' u') ∧ (∀ g w'', B ≤ g → g < w.heap.size → Turn [g] w' w'' → CallIs w'' w''.heap.size (cutC c) p' d' e' t' u') ∧ Below w.heap.size w w' := by
  unfold callV
  have hal : ∀ o o', Below w.heap.size w ((w.alloc o).alloc o') := fun o o' => ((Below.refl _ _).alloc (Nat.le_refl _) _).alloc (by simp) _
  have H := Lib.hid (And.intro (h.mono hBw) hal)
  have HIB := Lib.hid (And.intro h hBw)
  clear h hal hBw
  go_enter Try.func8, Try.ntmps8
  go_wp2_with fail
  refine (short_E p.A p.m p.c 300 c.param _ (H.out.1.hp.old (H.out.2 _ _)).e (by omega)).mono ?_
  rintro r1 w1 ⟨rfl, hw1⟩
  subst hw1
  go_wp2_with fail
  refine (short_E d.A d.m d.c 400 c.data _ (H.out.1.hd.old (H.out.2 _ _)).e (by omega)).mono ?_
  rintro r1 w1 ⟨rfl, hw1⟩
  subst hw1
  go_wp2_with fail
  refine (short_E e.A e.m e.c 200 c.more _ (H.out.1.he.old (H.out.2 _ _)).e (by omega)).mono ?_
  rintro r1 w1 ⟨rfl, hw1⟩
  subst hw1
  go_wp2_with fail
  obtain ⟨X, hX⟩ : ∃ X, w.heap.size = X := ⟨_, rfl⟩
  obtain ⟨wA, hwA⟩ : ∃ wA, (w.alloc (.cells #[.int .i64 c.fn, .int .i64 c.ss, .int .i64 c.a, .int .i64 c.b, .int .i64 c.n, .int .i64 c.kd, .slice p.A (min p.m 300) p.c, .slice d.A (min d.m 400) d.c, .slice e.A (min e.m 200) e.c, .slice t.A t.m t.c, .slice u.A u.m u.c] 27)).alloc (.cells #[.int .i64 0, .int .i64 0, .int .i64 0, .int .i64 0, .int .i64 0, .int .i64 0, .slice none 0 0, .slice none 0 0, .slice none 0 0, .slice none 0 0, .slice none 0 0] 27) = wA := ⟨_, rfl⟩
  have b1 : Blk wA X 27 #[.int .i64 c.fn, .int .i64 c.ss, .int .i64 c.a, .int .i64 c.b, .int .i64 c.n, .int .i64 c.kd, .slice p.A (min p.m 300) p.c, .slice d.A (min d.m 400) d.c, .slice e.A (min e.m 200) e.c, .slice t.A t.m t.c, .slice u.A u.m u.c] := by rw [← hwA, ← hX]; exact (Blk.new _ _ _).alloc _
  have b2 : Blk wA (X + 1) 27 #[.int .i64 0, .int .i64 0, .int .i64 0, .int .i64 0, .int .i64 0, .int .i64 0, .slice none 0 0, .slice none 0 0, .slice none 0 0, .slice none 0 0, .slice none 0 0] := by
    rw [← hwA, ← hX]
    have := Blk.new (w.alloc (.cells #[.int .i64 c.fn, .int .i64 c.ss, .int .i64 c.a, .int .i64 c.b, .int .i64 c.n, .int .i64 c.kd, .slice p.A (min p.m 300) p.c, .slice d.A (min d.m 400) d.c, .slice e.A (min e.m 200) e.c, .slice t.A t.m t.c, .slice u.A u.m u.c] 27)) 27 #[.int .i64 0, .int .i64 0, .int .i64 0, .int .i64 0, .int .i64 0, .int .i64 0, .slice none 0 0, .slice none 0 0, .slice none 0 0, .slice none 0 0, .slice none 0 0]
    rwa [show (w.alloc (.cells #[.int .i64 c.fn, .int .i64 c.ss, .int .i64 c.a, .int .i64 c.b, .int .i64 c.n, .int .i64 c.kd, .slice p.A (min p.m 300) p.c, .slice d.A (min d.m 400) d.c, .slice e.A (min e.m 200) e.c, .slice t.A t.m t.c, .slice u.A u.m u.c] 27)).heap.size = w.heap.size + 1 by simp] at this
  have hbA : Below X w wA := by rw [← hwA, ← hX]; exact H.out.2 _ _
  have hsA : wA.heap.size = X + 2 := by rw [← hwA, ← hX]; simp
  rw [hwA, hX]
  have hI : CallIs wA X c p d e t u := by rw [← hX]; exact H.out.1.old (by rw [hX]; exact hbA)
  have HA := Lib.hid (And.intro b1 (And.intro b2 (And.intro hbA (And.intro hsA (And.intro hI hX)))))
  clear hwA b1 b2 hbA hsA hI hX
  refine (cut17_any t.A t.m t.c 14 300 c.t1 wA (HA.out.2.2.2.2.1.ht.mono (by have := HA.out.2.2.2.1; omega)) HA.out.2.2.2.2.1.tm (by omega) (by omega)).mono ?_
  rintro r1 w1 ⟨s1, rfl, hO1, hb1⟩
  have b1 := HA.out.1.below hb1
  have q9 := b1.cell 9
  have q10 := b1.cell 10
  have f9 := b1.frozen 9
  simp only [List.getElem?_toArray, List.getElem?_cons_succ, List.getElem?_cons_zero] at q9 q10
  have H1 := Lib.hid (And.intro hO1 (And.intro hb1 b1))
  clear hO1 hb1 b1
  go_wp2_with fail
  obtain ⟨wB, hwB⟩ : ∃ wB, w1.setCell ⟨X, 9, none⟩ (.slice s1.A s1.m s1.c) = wB := ⟨_, rfl⟩
  have hTB : Turn [X] w1 wB := by rw [← hwB]; exact (Turn.refl _ _).setCell (.inl (by simp)) _
  have b1 : Blk wB X 27 #[.int .i64 c.fn, .int .i64 c.ss, .int .i64 c.a, .int .i64 c.b, .int .i64 c.n, .int .i64 c.kd, .slice p.A (min p.m 300) p.c, .slice d.A (min d.m 400) d.c, .slice e.A (min e.m 200) e.c, .slice s1.A s1.m s1.c, .slice u.A u.m u.c] := by
    rw [← hwB]
    have := H1.out.2.2.set_ 9 (.slice s1.A s1.m s1.c)
    simpa using this
  have hsA := HA.out.2.2.2.1
  have hs1 := H1.out.2.1.size
  have b2 : Blk wB (X + 1) 27 #[.int .i64 0, .int .i64 0, .int .i64 0, .int .i64 0, .int .i64 0, .int .i64 0, .slice none 0 0, .slice none 0 0, .slice none 0 0, .slice none 0 0, .slice none 0 0] := (HA.out.2.1.below H1.out.2.1).turn hTB (by simp)
  have hbB : Below X w wB := below_turn (HA.out.2.2.1.trans (H1.out.2.1.mono (by omega))) hTB (by simp) (by omega)
  have hO1 : OwnAts wB (X + 2) s1 (cutL c.t1 14 300) := (H1.out.1.mono (by omega)).turn hTB (by simp)
  have hI : CallIs wB X c p d e t u := HA.out.2.2.2.2.1.old (below_turn (H1.out.2.1.mono (by omega)) hTB (by simp) (by omega))
  have hsB : X + 2 ≤ wB.heap.size := by have := hTB.size; omega
  rw [hwB]
  have HB := Lib.hid (And.intro b1 (And.intro b2 (And.intro hbB (And.intro hO1 (And.intro hI hsB)))))
  clear hwB hTB b1 b2 hbB hO1 hI hsB hsA hs1 q9 q10 f9
  refine (cut17_any u.A u.m u.c 14 300 c.t2 wB (HB.out.2.2.2.2.1.hu.mono (by have := HB.out.2.2.2.2.2; omega)) HB.out.2.2.2.2.1.um (by omega) (by omega)).mono ?_
  rintro r2 w2 ⟨s2, rfl, hO2, hb2⟩
  have b1 := HB.out.1.below hb2
  have q0 := b1.cell 0
  have q1 := b1.cell 1
  have q2 := b1.cell 2
  have q3 := b1.cell 3
  have q4 := b1.cell 4
  have q5 := b1.cell 5
  have q6 := b1.cell 6
  have q7 := b1.cell 7
  have q8 := b1.cell 8
  have q9 := b1.cell 9
  have q10 := b1.cell 10
  have f10 := b1.frozen 10
  simp only [List.getElem?_toArray, List.getElem?_cons_succ, List.getElem?_cons_zero] at q0 q1 q2 q3 q4 q5 q6 q7 q8 q9 q10
  have H2 := Lib.hid (And.intro hO2 (And.intro hb2 (And.intro b1 (HB.out.2.1.below hb2))))
  clear hO2 hb2 b1
  have hb2' : Blk (w2.setCell ⟨X, 10, none⟩ (.slice s2.A s2.m s2.c)) (X + 1) 27 #[.int .i64 0, .int .i64 0, .int .i64 0, .int .i64 0, .int .i64 0, .int .i64 0, .slice none 0 0, .slice none 0 0, .slice none 0 0, .slice none 0 0, .slice none 0 0] := H2.out.2.2.2.far (by simp) _
  have HB2 := Lib.hid hb2'
  clear hb2'
  go_wp2_with (refine wpList_store_arr rfl 27 (.tmp 2) (.tmp 25) rfl (X + 1) 27 _ [.int .i64 c.fn, .int .i64 c.ss, .int .i64 c.a, .int .i64 c.b, .int .i64 c.n, .int .i64 c.kd, .slice p.A (min p.m 300) p.c, .slice d.A (min d.m 400) d.c, .slice e.A (min e.m 200) e.c, .slice s1.A s1.m s1.c, .slice s2.A s2.m s2.c] HB2.out rfl rfl (by kernel_rfl) rfl rfl ?_; intro w9 hB9 hT9; have H9 := Lib.hid (And.intro hB9 hT9); clear hB9 hT9)
  have z0 := H9.out.1.cell 0
  have z1 := H9.out.1.cell 1
  have z2 := H9.out.1.cell 2
  have z3 := H9.out.1.cell 3
  have z4 := H9.out.1.cell 4
  have z5 := H9.out.1.cell 5
  have z6 := H9.out.1.cell 6
  have z7 := H9.out.1.cell 7
  have z8 := H9.out.1.cell 8
  have z9 := H9.out.1.cell 9
  have z10 := H9.out.1.cell 10
  simp only [List.getElem?_toArray, List.getElem?_cons_succ, List.getElem?_cons_zero] at z0 z1 z2 z3 z4 z5 z6 z7 z8 z9 z10
  have hTC : Turn [X] w2 (w2.setCell ⟨X, 10, none⟩ (.slice s2.A s2.m s2.c)) := (Turn.refl _ _).setCell (.inl (by simp)) _
  have hsB := HB.out.2.2.2.2.2
  have hs2 := H2.out.2.1.size
  have hsC := hTC.size
  have hsD := H9.out.2.size
  have hTT : Turn [X, X + 1] w2 w9 := (hTC.more (by simp)).trans (H9.out.2.more (S' := [X, X + 1]) (by simp)) (fun _ hx => .inl hx)
  have hO1 : OwnAts w9 (X + 2) s1 (cutL c.t1 14 300) := (HB.out.2.2.2.1.below H2.out.2.1).turn hTT (by simp)
  have hO2 : OwnAts w9 (X + 2) s2 (cutL c.t2 14 300) := (H2.out.1.mono (by omega)).turn hTT (by simp)
  have hI : CallIs w9 X c p d e t u := HB.out.2.2.2.2.1.old (below_turn (H2.out.2.1.mono (by omega)) hTT (by simp) (by omega))
  have hbw : Below w.heap.size w w9 := by rw [HA.out.2.2.2.2.2]; exact below_turn (HB.out.2.2.1.trans (H2.out.2.1.mono (by omega))) hTT (by simp) (by omega)
  refine bodyPost_ret (v := .agg #[.int .i64 c.fn, .int .i64 c.ss, .int .i64 c.a, .int .i64 c.b, .int .i64 c.n, .int .i64 c.kd, .slice p.A (min p.m 300) p.c, .slice d.A (min d.m 400) d.c, .slice e.A (min e.m 200) e.c, .slice s1.A s1.m s1.c, .slice s2.A s2.m s2.c]) (by simp [results, Try.results8, go_sem, z0, z1, z2, z3, z4, z5, z6, z7, z8, z9, z10]) rfl ?_
  refine ⟨⟨p.A, min p.m 300, p.c⟩, ⟨d.A, min d.m 400, d.c⟩, ⟨e.A, min e.m 200, e.c⟩, s1, s2, rfl, fun g w'' hg1 hg2 ht => ?_, hbw⟩
  have hX := HA.out.2.2.2.2.2
  have hBw := HIB.out.2
  have hI9 : CallIs w9 B c p d e t u := HIB.out.1.old (hbw.mono hBw)
  have hI'' : CallIs w'' B c p d e t u := hI9.old (below_turn (Below.refl _ _) ht (by simp; exact hg1) (by omega))
  have hs := ht.size
  have hO1' := hO1.turn ht (by simp; omega)
  have hO2' := hO2.turn ht (by simp; omega)
  exact ⟨(hI''.hp.short 300).mono (by omega), (hI''.hd.short 400).mono (by omega), (hI''.he.short 200).mono (by omega), hO1'.at_, hO2'.at_, hO1'.max, hO2'.max⟩
end Go.Proofs.Ytmanpfenmamflaa
