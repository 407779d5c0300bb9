/-
  blockfs: what is formatted, what is mounted.
-/
import Derived.Test.YtomngfihaohgdaaDoorFs9
import Derived.Test.YtomngfihaohgdaaDoorFull
namespace Go.Proofs.YtomngfihaohgdaaDoor
set_option maxRecDepth 100000
open Go.RowKit

/-- A device of zeros. -/
def ZeroD (s : Dsk) : Prop := ∀ i, i < s.n → Cl s i (zs 256)
theorem zeroD_new (n : Nat) : ZeroD (Dsk.new n) := by
  intro i hi
  have hi' : i < n := by unfold Dsk.n Dsk.new at hi; simpa using hi
  unfold Cl Dsk.rd Dsk.srd Dsk.new
  simp [List.getElem?_replicate, hi', Sec.read, Sec.sread]
theorem new_n (n : Nat) : (Dsk.new n).n = n := by unfold Dsk.n Dsk.new; simp
theorem new_fok (n : Nat) : FOk (Dsk.new n) 0 := ⟨fun h => (nomatch h), (show (0 : Int) ≤ 1000 by decide), Nat.le_refl _⟩
theorem good_fmt {s : Dsk} (h16 : 16 ≤ s.n) (h60 : s.n ≤ 1000) (h0 : Cl s 0 (headB 0)) (hz : ∀ j, j < s.n → j ≠ 0 → Cl s j (zs 256)) : Good headB s 0 (List.replicate ((s.n - 8) / 2) (zs 256)) := by
  refine ⟨h16, h60, List.length_replicate, h0, ⟨zs 256, hz 1 (by omega) (by omega), .inl rfl⟩, fun i b hi => ?_⟩
  rw [List.getElem?_replicate] at hi
  split at hi
  · injection hi with hi
    subst hi
    exact hz _ (by omega) (by omega)
  · cases hi
theorem fmt_cases {s s' : Dsk} {ok : Bool} (hz : ZeroD s) (h16 : 16 ≤ s.n) (h60 : s.n ≤ 1000) (h : s.fmt = (ok, s')) :
    s'.n = s.n ∧ (ok = true → Good headB s' 0 (List.replicate ((s.n - 8) / 2) (zs 256))) ∧
    (ok = false → ∀ kp, ZeroD (s'.crash kp) ∨ Good headB (s'.crash kp) 0 (List.replicate ((s.n - 8) / 2) (zs 256))) ∧
    (s.fused = false → s.dead = false → ok = true ∧ s'.dead = false ∧ s'.fused = false) := by
  have zc : ∀ t : Dsk, ZeroD t → ∀ kp, ZeroD (t.crash kp) := fun t ht kp i hi => crash_cl (ht i (by rwa [crash_n] at hi)) kp
  have zy : ∀ t : Dsk, ZeroD t → ZeroD t.sy.2 := fun t ht i hi => sy_cl (ht i (by rwa [(sy_did t).n] at hi))
  unfold Dsk.fmt at h
  have d1 := sy_did s
  have z1 := zy s hz
  obtain ⟨o1, s1, e1⟩ : ∃ o1 s1, s.sy = (o1, s1) := ⟨_, _, rfl⟩
  rw [e1] at h d1 z1
  simp only at h d1 z1
  cases o1 with
  | false =>
    rw [if_pos rfl] at h
    injection h with ha hb
    subst ha hb
    exact ⟨d1.n, (fun h => by cases h), fun _ kp => .inl (zc _ z1 kp), fun h1 h2 => by have := (d1.alive h1 h2).2; cases this⟩
  | true =>
  simp only [Bool.true_eq_false, if_false] at h
  have d2 := d1.trans (sy_did s1)
  have z2 := zy s1 z1
  obtain ⟨o2, s2, e2⟩ : ∃ o2 s2, s1.sy = (o2, s2) := ⟨_, _, rfl⟩
  rw [e2] at h d2 z2
  simp only at h d2 z2
  cases o2 with
  | false =>
    rw [if_pos rfl] at h
    injection h with ha hb
    subst ha hb
    exact ⟨d2.n, (fun h => by cases h), fun _ kp => .inl (zc _ z2 kp), fun h1 h2 => by have := (d2.alive h1 h2).2; cases this⟩
  | true =>
  simp only [Bool.true_eq_false, if_false] at h
  have hn2 := d2.n
  have d3 := d2.trans (wr_did s2 0 (headB 0))
  have c3 : ∀ j, j < s2.n → j ≠ 0 → Cl (s2.wr 0 (headB 0)).2 j (zs 256) := fun j hj hj0 => wr_cl (z2 j hj) (by omega) (by omega)
  have r3 := wr_rd (s := s2) (i := 0) (j := 0) (l := headB 0) (by omega)
  have y3 := wr_srd (s := s2) (i := 0) (j := 0) (l := headB 0)
  have n3 : (s2.wr 0 (headB 0)).1 = false → ZeroD (s2.wr 0 (headB 0)).2 := fun hf => by
    unfold Dsk.wr at hf ⊢
    split
    · exact z2
    · rename_i hd; rw [if_neg hd] at hf; cases hf
  obtain ⟨o3, s3, e3⟩ : ∃ o3 s3, s2.wr 0 (headB 0) = (o3, s3) := ⟨_, _, rfl⟩
  rw [e3] at h d3 c3 r3 y3 n3
  simp only at h d3 c3 r3 y3 n3
  cases o3 with
  | false =>
    rw [if_pos rfl] at h
    injection h with ha hb
    subst ha hb
    exact ⟨d3.n, (fun h => by cases h), fun _ kp => .inl (zc _ (n3 rfl) kp), fun h1 h2 => by have := (d3.alive h1 h2).2; cases this⟩
  | true =>
  simp only [Bool.true_eq_false, if_false] at h
  have r3' := r3 rfl
  simp only [if_true] at r3'
  rw [(z2 0 (by omega)).2] at y3
  have d4 := d3.trans (sy_did s3)
  have hn3 := d3.n
  have c4 : ∀ j, j < s2.n → j ≠ 0 → Cl s3.sy.2 j (zs 256) := fun j hj hj0 => sy_cl (c3 j hj hj0)
  have h4 := fun hok => sy_cl_of (s := s3) (j := 0) r3' hok
  have q4 : s3.sy.1 = false → s3.sy.2 = s3 := fun hf => by
    unfold Dsk.sy at hf ⊢
    split
    · rfl
    · rename_i hd; rw [if_neg hd] at hf; cases hf
  rw [h] at d4 c4 h4 q4
  simp only at d4 c4 h4 q4
  refine ⟨d4.n, fun hok => ?_, fun hok kp => ?_, fun h1 h2 => ?_⟩
  · rw [← d4.n]
    exact good_fmt (by rw [d4.n]; omega) (by rw [d4.n]; omega) (h4 hok) (fun j hj hj0 => c4 j (by rw [d4.n] at hj; omega) hj0)
  · rw [q4 hok] at c4 ⊢
    obtain ⟨l, hl, hl2 | hl2⟩ := crash_rd s3 kp 0
    · right
      rw [r3'] at hl2
      rw [hl2] at hl
      have hnn : (s3.crash kp).n = s.n := by rw [crash_n, hn3]
      rw [← hnn]
      exact good_fmt (by omega) (by omega) hl (fun j hj hj0 => crash_cl (c4 j (by omega) hj0) kp)
    · left
      rw [y3] at hl2
      rw [hl2] at hl
      intro i hi
      rw [crash_n, hn3] at hi
      by_cases hi0 : i = 0
      · subst hi0; exact hl
      · exact crash_cl (c4 i (by omega) hi0) kp
  · exact ⟨(d4.alive h1 h2).2, (d4.alive h1 h2).1, d4.fused.trans h1⟩
theorem good_heads {s : Dsk} {c : Nat} {m : List (List UInt8)} (h : Good headB s c m) (hc : c < 1000000) : ∃ cl, (∀ k, k < 2 → HeadIs s k (cl k)) ∧ best cl 2 = (c : Int) := by
  obtain ⟨l, h2a, h2b⟩ := h.h2
  obtain ⟨ot, ho1, ho2⟩ : ∃ ot, HeadIs s ((c + 1) % 2) ot ∧ (ot = none ∨ ∃ c', ot = some c' ∧ c' < c) := by
    rcases h2b with h2b | ⟨c', h3, h4, h5⟩
    · exact ⟨none, by unfold HeadIs; rw [h2a.1, h2b], .inl rfl⟩
    · exact ⟨some c', ⟨by omega, h4, by rw [h2a.1, h5]⟩, .inr ⟨c', rfl, h3⟩⟩
  refine ⟨fun k => if k = c % 2 then some c else ot, fun k hk => ?_, ?_⟩
  · by_cases he : k = c % 2
    · simp only [if_pos he]
      exact ⟨hc, he.symm, by rw [he]; exact h.h1.1⟩
    · simp only [if_neg he]
      rw [show k = (c + 1) % 2 by omega]
      exact ho1
  · unfold best best best
    rcases (show c % 2 = 0 ∨ c % 2 = 1 by omega) with h0 | h0
    · rw [h0]
      rcases ho2 with rfl | ⟨c', rfl, hl⟩ <;> simp <;> omega
    · rw [h0]
      rcases ho2 with rfl | ⟨c', rfl, hl⟩ <;> simp <;> omega
theorem zero_heads {s : Dsk} (hz : ZeroD s) (hn : 16 ≤ s.n) : ∀ k, k < 2 → HeadIs s k ((fun _ => none : Nat → Option Nat) k) := fun k hk => (hz k (by omega)).1
theorem mount_good (d L : Nat) (s : Dsk) (c : Nat) (m : List (List UInt8)) (w : World) (h : DkAt w d L s) (hg : Good headB s c m) (hc : c < 1000000) (hd : s.dead = false) (hK : KAt w) :
    Calls Tryd.prog 14 #[.pointer (some ⟨d, 0, none⟩)] w fun e w' =>
      ∃ v, e = .returned (.tuple #[.pointer (some ⟨v, 0, none⟩), .int .i64 0]) ∧ w.heap.size ≤ v ∧ VolB w' v d ((s.n - 8) / 2) c false ∧ Below w.heap.size w w' := by
  obtain ⟨cl, h1, h2⟩ := good_heads hg hc
  refine (mount_any d L s w h hg.n16 hg.n60 hd hK cl h1).mono ?_
  rintro e w' ⟨⟨h3, _⟩ | ⟨c', v, h3, h4, h5, h6⟩, hb⟩
  · omega
  · rw [h2] at h3
    have : c' = c := by omega
    subst this
    exact ⟨v, h4, h5, h6, hb⟩
theorem mount_zero (d L : Nat) (s : Dsk) (w : World) (h : DkAt w d L s) (hz : ZeroD s) (hn : 16 ≤ s.n) (hn2 : s.n ≤ 1000) (hd : s.dead = false) (hK : KAt w) :
    Calls Tryd.prog 14 #[.pointer (some ⟨d, 0, none⟩)] w fun e w' => e = .returned (.tuple #[.pointer none, .int .i64 5]) ∧ Below w.heap.size w w' := by
  refine (mount_any d L s w h hn hn2 hd hK _ (zero_heads hz hn)).mono ?_
  rintro e w' ⟨⟨h3, h4⟩ | ⟨c', v, h3, h4, h5, h6⟩, hb⟩
  · exact ⟨h4, hb⟩
  · have : best (fun _ => none) 2 = -1 := rfl
    rw [this] at h3
    omega
end Go.Proofs.YtomngfihaohgdaaDoor
