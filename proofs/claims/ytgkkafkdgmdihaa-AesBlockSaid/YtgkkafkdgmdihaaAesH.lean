/-
  Elements of GHASH's field: read, write, Times, GHASH.
-/
import Derived.Test.YtgkkafkdgmdihaaAesG
namespace Go.Proofs.Ytgkkafkdgmdihaa
open Go.RowKit

def rd16 (l : List UInt8) : UInt64 × UInt64 := (word64 l 0, word64 (l.drop 8) 0)
def wr16 (h l : UInt64) : List UInt8 := bytes64 h ++ bytes64 l
set_option maxHeartbeats 1000000 in
theorem eread_any (b off c : Nat) (l : List UInt8) (w : World) (h : At w b off l) (hl : l.length = 16) (hc : 16 ≤ c) :
    Calls Try.prog 28 #[.slice (some ⟨b, off, none⟩) 16 c] w fun e w' => e = .returned (El (rd16 l).1 (rd16 l).2) ∧ Below w.heap.size w w' := by
  obtain ⟨w1, hw1⟩ : ∃ w1, w.alloc (.cells #[.int .u64 0, .int .u64 0] 55) = w1 := ⟨_, rfl⟩
  have hb1 : Below w.heap.size w w1 := by rw [← hw1]; exact (Below.refl _ _).alloc (Nat.le_refl _) _
  have hR : Blk w1 w.heap.size 55 #[.int .u64 0, .int .u64 0] := by rw [← hw1]; exact Blk.new _ _ _
  have hz1 : w1.heap.size = w.heap.size + 1 := by rw [← hw1]; simp
  have hlt := h.1
  have hAt : ∀ wq, Turn [w.heap.size] w1 wq → At wq b off l := fun wq hq =>
    (h.keep hb1.size (hb1.block b hlt)).keep hq.size (hq.block b (by omega) (by simp; omega))
  have hG1 : ∀ wq, Turn [w.heap.size] w1 wq → Calls Try.prog 35 #[.slice (some ⟨b, off, none⟩) 16 c] wq fun e w' => e = .returned (U64 (word64 l 0)) ∧ ∃ k, w' = wq.drewN k := fun wq hq => get64_any b off 16 c l wq (hAt wq hq) hl.symm (by omega)
  have hG2 : ∀ wq, Turn [w.heap.size] w1 wq → Calls Try.prog 35 #[.slice (some ⟨b, off + 8, none⟩) 8 (c - 8)] wq fun e w' => e = .returned (U64 (word64 (l.drop 8) 0)) ∧ ∃ k, w' = wq.drewN k := fun wq hq => get64_any b (off + 8) 8 (c - 8) (l.drop 8) wq ((hAt wq hq).drop 8) (by simp [hl]) (by omega)
  have hr : ∀ wq, Old w1 wq → wq.cell? ⟨w.heap.size, 0, none⟩ = some (.int .u64 0) ∧ wq.cell? ⟨w.heap.size, 1, none⟩ = some (.int .u64 0) ∧ wq.frozen? ⟨w.heap.size, 0, none⟩ = false ∧ wq.frozen? ⟨w.heap.size, 1, none⟩ = false := fun wq hq => by
    have hb := hR.below hq
    have a0 := hb.cell 0
    have a1 := hb.cell 1
    simp only [List.getElem?_toArray, List.getElem?_cons_zero, List.getElem?_cons_succ] at a0 a1
    exact ⟨a0, a1, hb.frozen 0, hb.frozen 1⟩
  have hfin : ∀ (a : Array Value) (wq : World), Old w1 wq → Turn [w.heap.size] w1 ((wq.setCell ⟨w.heap.size, 0, none⟩ (U64 (word64 l 0))).setCell ⟨w.heap.size, 1, none⟩ (U64 (word64 (l.drop 8) 0))) → a.getD 2 undef = .pointer (some ⟨w.heap.size, 0, none⟩) →
      bodyPost Try.prog Try.f28 (fun e w' => e = .returned (El (rd16 l).1 (rd16 l).2) ∧ Below w.heap.size w w') .ret { tmps := a, defers := [] } ((wq.setCell ⟨w.heap.size, 0, none⟩ (U64 (word64 l 0))).setCell ⟨w.heap.size, 1, none⟩ (U64 (word64 (l.drop 8) 0))) := fun a wq ho ht ha => by
    have hB5 := ((hR.below ho).set_ 0 (U64 (word64 l 0))).set_ 1 (U64 (word64 (l.drop 8) 0))
    have hc0 := hB5.cell 0
    have hc1 := hB5.cell 1
    simp only [List.setIfInBounds_toArray, List.set_cons_zero, List.set_cons_succ, List.getElem?_toArray, List.getElem?_cons_zero, List.getElem?_cons_succ] at hc0 hc1
    refine bodyPost_ret (v := .agg #[U64 (word64 l 0), U64 (word64 (l.drop 8) 0)]) ?_ rfl ⟨rfl, below_turn hb1 ht (by simp) hb1.size⟩
    have ha' : a[2]?.getD undef = .pointer (some ⟨w.heap.size, 0, none⟩) := by simpa using ha
    simp [results, Try.results28, go_sem, hc0, hc1, ha']
  have HG1 := Lib.hid hG1
  have HG2 := Lib.hid hG2
  have HR := Lib.hid hr
  have fin := hfin
  have c8 : ¬ c = 8 := by omega
  have c8' : 8 ≤ c := by omega
  have c16 : (16 : Int) ≤ c := by omega
  clear hG1 hG2 hr hfin hAt hR hb1 h hl
  have Fin := Lib.hid fin
  clear fin
  go_enter Try.func28, Try.ntmps28
  go_upto_region 1 with fail
  clear hw1
  refine region_turn [w.heap.size] (by kernel_rfl) (fun wd hOld hHeld hSz => ?_)
  have HOL := Lib.hid hOld
  clear hOld
  refine takeL (i := 0) (v := ?_) rfl (by kernel_rfl) (by kernel_rfl) (by kernel_rfl) (fun _ _ _ h => h) (Or.inl ⟨by rfl, ?_⟩) hHeld ?_
  rotate_left
  focus (intro wq hSw; clear hSw; go_simp; try with_reducible rfl)
  try simp only [Act.put, List.setIfInBounds_toArray, List.set_cons_zero, List.set_cons_succ]
  refine takeL (i := 2) (v := ?_) rfl (by kernel_rfl) (by kernel_rfl) (by kernel_rfl) (fun _ _ _ h => h) (Or.inl ⟨by rfl, ?_⟩) hHeld ?_
  rotate_left
  focus (intro wq hSw; clear hSw; go_simp; try with_reducible rfl)
  try simp only [Act.put, List.setIfInBounds_toArray, List.set_cons_zero, List.set_cons_succ]
  refine takeL (i := 3) (v := ?_) rfl (by kernel_rfl) (by kernel_rfl) (by kernel_rfl) (fun _ _ _ h => h) (Or.inl ⟨by rfl, ?_⟩) hHeld ?_
  rotate_left
  focus (intro wq hSw; clear hSw; go_simp; try with_reducible rfl)
  try simp only [Act.put, List.setIfInBounds_toArray, List.set_cons_zero, List.set_cons_succ]
  refine wpAnyH_ready (rs := [1]) (by kernel_rfl) (by simp) ?_
  refine consL rfl (fun K hK => ?_) AllReadyH.nil
  go_simp
  refine (HG1.out _ hHeld).mono ?_; rintro e wq ⟨rfl, k1, rfl⟩
  refine hK.out _ _ (hHeld.drewN _) (fun hHeld => ?_)
  clear hK K
  try simp only [Act.put, List.setIfInBounds_toArray, List.set_cons_zero, List.set_cons_succ]
  refine wpAnyH_ready (rs := [4]) (by kernel_rfl) (by simp) ?_
  refine consL rfl (fun K hK => ?_) AllReadyH.nil
  go_simp
  refine (HG2.out _ hHeld).mono ?_; rintro e wq ⟨rfl, k2, rfl⟩
  refine hK.out _ _ (hHeld.drewN _) (fun hHeld => ?_)
  clear hK K
  try simp only [Act.put, List.setIfInBounds_toArray, List.set_cons_zero, List.set_cons_succ]
  refine takeL (i := 5) (v := ?_) rfl (by kernel_rfl) (by kernel_rfl) (by kernel_rfl) (fun _ _ _ h => h) (Or.inl ⟨by rfl, ?_⟩) hHeld ?_
  rotate_left
  focus (intro wq hSw; clear hSw; go_simp; try with_reducible rfl)
  try simp only [Act.put, List.setIfInBounds_toArray, List.set_cons_zero, List.set_cons_succ]
  obtain ⟨r0, r1, f0, f1⟩ := HR.out _ HOL.out
  refine wpAnyH_ready (rs := [6]) (by kernel_rfl) (by simp) ?_
  refine consL rfl (fun K hK => ?_) AllReadyH.nil
  go_simp
  refine hK.out _ _ (((Turn.of_below [w.heap.size] ((Old.drewN HOL.out _))).setCell (p := ⟨w.heap.size, 0, none⟩) (.inl (by simp)) _).setCell (p := ⟨w.heap.size, 1, none⟩) (.inl (by simp)) _) (fun hHeld => ?_)
  clear hK K
  try simp only [Act.put, List.setIfInBounds_toArray, List.set_cons_zero, List.set_cons_succ]
  refine wpAnyH_done (by kernel_rfl) ?_ _
  refine NoPanic.normal ?_
  have HH2 := Lib.hid hHeld
  clear r0 r1 f0 f1 hHeld
  go_wp2_with fail
  exact Fin.out _ _ (Old.drewN HOL.out _) HH2.out rfl
set_option maxHeartbeats 1000000 in
theorem ewrite_any (h l : UInt64) (w : World) :
    Calls Try.prog 30 #[El h l] w fun e w' => ∃ g c, e = .returned (.slice (some ⟨g, 0, none⟩) 16 c) ∧ Own w' w.heap.size (.slice (some ⟨g, 0, none⟩) 16 c) (wr16 h l) ∧ Below w.heap.size w w' := by
  obtain ⟨w1, hw1⟩ : ∃ w1, w.alloc (.cells #[U64 h, U64 l] 55) = w1 := ⟨_, rfl⟩
  have hb1 : Below w.heap.size w w1 := by rw [← hw1]; exact (Below.refl _ _).alloc (Nat.le_refl _) _
  have hR : Blk w1 w.heap.size 55 #[U64 h, U64 l] := by rw [← hw1]; exact Blk.new _ _ _
  have hz1 : w1.heap.size = w.heap.size + 1 := by rw [← hw1]; simp
  have hr : ∀ wq, Old w1 wq → wq.cell? ⟨w.heap.size, 0, none⟩ = some (U64 h) ∧ wq.cell? ⟨w.heap.size, 1, none⟩ = some (U64 l) := fun wq hq => by
    have hb := hR.below hq
    have a0 := hb.cell 0
    have a1 := hb.cell 1
    simp only [List.getElem?_toArray, List.getElem?_cons_zero, List.getElem?_cons_succ] at a0 a1
    exact ⟨a0, a1⟩
  have HR := Lib.hid hr
  have HB1 := Lib.hid hb1
  clear hr hR hb1
  unfold El
  go_enter Try.func30, Try.ntmps30
  go_upto_region 1 with fail
  clear hw1
  refine region_old (by kernel_rfl) (fun wd hHeld hSz => ?_)
  have HSz := Lib.hid hSz
  clear hSz
  refine takeL (i := 0) (v := ?_) rfl (by kernel_rfl) (by kernel_rfl) (by kernel_rfl) (fun _ _ _ h => h) (Or.inl ⟨by rfl, ?_⟩) hHeld ?_
  rotate_left
  focus (intro wq hSw; clear hSw; go_simp; try with_reducible rfl)
  try simp only [Act.put, List.setIfInBounds_toArray, List.set_cons_zero, List.set_cons_succ]
  refine takeL (i := 1) (v := ?_) rfl (by kernel_rfl) (by kernel_rfl) (by kernel_rfl) (fun _ _ _ h => h) (Or.inl ⟨by rfl, ?_⟩) hHeld ?_
  rotate_left
  focus (intro wq hSw; obtain ⟨a0, a1⟩ := HR.out wq hSw; clear hSw; go_simp; try with_reducible rfl)
  try simp only [Act.put, List.setIfInBounds_toArray, List.set_cons_zero, List.set_cons_succ]
  refine takeL (i := 3) (v := ?_) rfl (by kernel_rfl) (by kernel_rfl) (by kernel_rfl) (fun _ _ _ h => h) (Or.inl ⟨by rfl, ?_⟩) hHeld ?_
  rotate_left
  focus (intro wq hSw; clear hSw; go_simp; try with_reducible rfl)
  try simp only [Act.put, List.setIfInBounds_toArray, List.set_cons_zero, List.set_cons_succ]
  refine takeL (i := 4) (v := ?_) rfl (by kernel_rfl) (by kernel_rfl) (by kernel_rfl) (fun _ _ _ h => h) (Or.inl ⟨by rfl, ?_⟩) hHeld ?_
  rotate_left
  focus (intro wq hSw; obtain ⟨a0, a1⟩ := HR.out wq hSw; clear hSw; go_simp; try with_reducible rfl)
  try simp only [Act.put, List.setIfInBounds_toArray, List.set_cons_zero, List.set_cons_succ]
  have hbw : w1.heap.size ≤ wd.heap.size := hHeld.size
  refine wpAnyH_ready (rs := [2]) (by kernel_rfl) (by simp) ?_
  refine consL rfl (fun K hK => ?_) AllReadyH.nil
  go_simp
  refine (append64_any (.slice none 0 0) h [] wd w1.heap.size (World.ownsRow_nil _ _ _ _) hbw (by simp)).mono ?_
  rintro e wx ⟨v1, rfl, ho1, ht1, hv1⟩
  have hHeld' : Old w1 wx := below_turn hHeld ht1 (fun t ht => by simp [Value.ownBlock] at ht) hHeld.size
  refine hK.out _ _ hHeld' (fun hHeld => ?_)
  clear hK K hHeld'
  try simp only [Act.put, List.setIfInBounds_toArray, List.set_cons_zero, List.set_cons_succ]
  rw [List.nil_append] at ho1
  have hO1 := Lib.hid ho1
  clear ho1 ht1
  refine wpAnyH_ready (rs := [5]) (by kernel_rfl) (by simp) ?_
  refine consL rfl (fun K hK => ?_) AllReadyH.nil
  go_simp
  refine (append64_any v1 l (bytes64 h) wx w1.heap.size hO1.out hHeld.size (by simp [bytes64])).mono ?_
  rintro e wy ⟨v2, rfl, ho2, ht2, hv2⟩
  have hHeld' : Old w1 wy := below_turn hHeld ht2 (fun t ht => (hO1.out.lt (show v1.ownBlock = some t by simpa using ht)).1) hHeld.size
  refine hK.out _ _ hHeld' (fun hHeld => ?_)
  clear hK K hHeld'
  try simp only [Act.put, List.setIfInBounds_toArray, List.set_cons_zero, List.set_cons_succ]
  obtain ⟨g, c, rfl⟩ := ho2.form hv2
  have hO2 := Lib.hid ho2
  clear ho2 ht2 hv2 hv1
  refine takeL (i := 6) (v := ?_) rfl (by kernel_rfl) (by kernel_rfl) (by kernel_rfl) (fun _ _ _ h => h) (Or.inl ⟨by rfl, ?_⟩) hHeld ?_
  rotate_left
  focus (intro wq hSw; clear hSw; go_simp; try with_reducible rfl)
  try simp only [Act.put, List.setIfInBounds_toArray, List.set_cons_zero, List.set_cons_succ]
  refine wpAnyH_done (by kernel_rfl) ?_ _
  refine NoPanic.normal ?_
  have HH := Lib.hid hHeld
  clear hHeld
  go_wp2_with fail
  go_ret
  exact ⟨g, c, rfl, hO2.out.mono (by omega), HB1.out.trans (HH.out.mono (by omega))⟩
end Go.Proofs.Ytgkkafkdgmdihaa
