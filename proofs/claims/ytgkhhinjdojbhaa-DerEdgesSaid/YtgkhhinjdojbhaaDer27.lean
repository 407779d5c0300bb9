/-
  DER: the laws' cut, whole.
-/
import Derived.Test.YtgkhhinjdojbhaaDer26
namespace Go.Proofs.Ytgkhhinjdojbhaa
open Go.RowKit

/-- A node that is not too great. -/
def Nd.cut (n : Nd) : Nd := (n.someN 17 60).1
theorem Nd.cut_small (n : Nd) : n.cut.small = true := someN_small n 17 60
theorem Nd.cut_enc {n : Nd} (h : n.cut.may = true) : n.cut.enc.length ≤ 215040 := by
  unfold Nd.may at h
  rw [Bool.and_eq_true, decide_eq_true_eq] at h
  have := small_enc n.cut n.cut_small h.2
  omega
set_option maxRecDepth 100000 in
set_option maxHeartbeats 4000000 in
theorem cut_any (f : NF) (n : Nd) (w : World) (hN : NdI (fun b => b < w.heap.size) w f n) :
    Calls Try.prog 9 #[f.val] w fun e w' => ∃ f' : NF, e = .returned f'.val ∧ NdR (fun b => w.heap.size ≤ b ∧ b < w'.heap.size) NB2 w' f' n.cut ∧ Below w.heap.size w w' := by
  obtain ⟨t1, A1, n1, k1, A2, n2, k2⟩ := f
  obtain ⟨X, hX⟩ : ∃ X, w.heap.size = X := ⟨_, rfl⟩
  obtain ⟨w1, hw1⟩ : ∃ w1, ((w.alloc (.cells #[.int .i64 t1, .slice A1 n1 k1, .slice A2 n2 k2] 25)).alloc (.cells #[.int .i64 0, .slice none 0 0, .slice none 0 0] 25)).alloc (.cells #[.int .i64 60] 3) = w1 := ⟨_, rfl⟩
  have hb1 : Below w.heap.size w w1 := by rw [← hw1]; exact (((Below.refl _ _).alloc (Nat.le_refl _) _).alloc (by simp) _).alloc (by simp; omega) _
  have bX : Blk w1 X 25 #[.int .i64 t1, .slice A1 n1 k1, .slice A2 n2 k2] := by rw [← hw1, ← hX]; exact ((Blk.new _ _ _).alloc _).alloc _
  have bR : Blk w1 (X + 1) 25 #[.int .i64 0, .slice none 0 0, .slice none 0 0] := by rw [← hw1, show X + 1 = (w.alloc (.cells #[.int .i64 t1, .slice A1 n1 k1, .slice A2 n2 k2] 25)).heap.size by rw [← hX]; simp]; exact (Blk.new _ _ _).alloc _
  have bG : Blk w1 (X + 2) 3 #[.int .i64 60] := by rw [← hw1, show X + 2 = ((w.alloc (.cells #[.int .i64 t1, .slice A1 n1 k1, .slice A2 n2 k2] 25)).alloc (.cells #[.int .i64 0, .slice none 0 0, .slice none 0 0] 25)).heap.size by rw [← hX]; simp]; exact Blk.new _ _ _
  have hs1 : w1.heap.size = X + 3 := by rw [← hw1, ← hX]; simp
  have hN1 : NdI (fun b => b < X) w1 ⟨t1, A1, n1, k1, A2, n2, k2⟩ n := by rw [← hX]; exact hN.bel hb1 (fun b hb => hb)
  have hc := some_any (fun b => b < X) (X + 2) n ⟨t1, A1, n1, k1, A2, n2, k2⟩ 17 1 60 w1 hN1 (fun b hb => ⟨by omega, by omega⟩) (by omega) (by omega) (by omega) (by omega) bG
  simp only [NF.val] at hc
  have x0 := bX.cell 0
  have x1 := bX.cell 1
  have x2 := bX.cell 2
  simp only [List.getElem?_toArray, List.getElem?_cons_succ, List.getElem?_cons_zero] at x0 x1 x2
  have H1 := Lib.hid (And.intro bR (And.intro hb1 (And.intro hs1 hX)))
  have HX := Lib.hid hX
  clear bX bR bG hb1 hs1 hN1 hN
  simp only [NF.val]
  go_enter Try.func9, Try.ntmps9
  go_upto_region 2 with fail
  try rw [hX]
  try rw [hw1]
  clear hw1 hX
  go_upto_region 3 with (first | (refine wpList_store_arr rfl 25 (.tmp 2) (.tmp 5) rfl (X + 1) 25 _ [.int .i64 t4, .slice B1 m1 c1, .slice B2 m2 c2] HR.out rfl rfl (by kernel_rfl) rfl rfl ?_; intro w3 hB3 hT3; have H3 := Lib.hid (And.intro hB3 hT3); clear hB3 hT3) | (with_reducible refine hc.mono ?_; rintro e w2 ⟨⟨t4, B1, m1, c1, B2, m2, c2⟩, rfl, hN2, _, hT2⟩; have HN2 := Lib.hid (And.intro hN2 hT2); have HR := Lib.hid (H1.out.1.turn hT2 (by simp)); simp only [NF.val]; clear hN2 hT2 hc x0 x1 x2))
  try simp only [Act.put]
  go_wp2_with fail
  refine bodyPost_ret (node_res1 (f := ⟨t4, B1, m1, c1, B2, m2, c2⟩) rfl rfl H3.out.1) rfl ?_
  have hXX := HX.out
  have hs1 := H1.out.2.2.1
  have hN3 : NdR (fun b => w1.heap.size ≤ b ∧ b < w2.heap.size) NB2 w3 ⟨t4, B1, m1, c1, B2, m2, c2⟩ n.cut := HN2.out.1.turn H3.out.2 (fun b hb => ⟨hb.2, by have := hb.1; simp; omega⟩)
  refine ⟨⟨t4, B1, m1, c1, B2, m2, c2⟩, rfl, hN3.mono (fun b hb => ⟨by omega, by have := H3.out.2.size; omega⟩) (fun _ h => h), ?_⟩
  have h2 : Below w.heap.size w w2 := below_turn H1.out.2.1 HN2.out.2 (fun t ht => by simp at ht; omega) (by omega)
  exact below_turn h2 H3.out.2 (fun t ht => by simp at ht; omega) h2.size
end Go.Proofs.Ytgkhhinjdojbhaa
