/-
  Contract of (*hashes.Hash).Copy.
-/
import Derived.Test.YtdgjjmaiibafhaaDoorWrite
namespace Go.Proofs.YtdgjjmaiibafhaaDoor
open Go.RowKit

/-- bytes.Clone of nil or of a row: nil, or a new row. -/
theorem clone_own (v : Value) (l : List UInt8) (w : World) (base : Nat) (h : Own w base v l) (hl : l.length ≤ 140737488355328) :
    Calls Tryd.prog 23 #[v] w fun e w' => ∃ v', e = .returned v' ∧ Own w' w.heap.size v' l ∧ Below w.heap.size w w' := by
  obtain ⟨A, c, rfl, hr, _⟩ := h.shape
  obtain ⟨h1, h2, h3, ⟨rfl, hc⟩ | ⟨b, off, rfl, hat⟩⟩ := hr
  · have hz : l.length = 0 := by omega
    obtain rfl : l = [] := List.length_eq_zero_iff.1 hz
    subst hc
    exact (clone_nil w).mono fun e w' ⟨he, hw⟩ => ⟨_, he, World.ownsRow_nil _ _ _ _, hw ▸ Below.refl _ _⟩
  · exact (clone_any b off l.length c l w hat rfl hl).mono fun e w' ⟨g, c', he, ho, hb⟩ => ⟨_, he, ho, hb⟩

theorem copy_nil (w : World) : Calls Tryd.prog 56 #[.pointer none] w fun e w' => e = .returned (.pointer none) ∧ Below w.heap.size w w' := by
  go_enter Tryd.func56, Tryd.ntmps56
  go_wp2
  go_ret
  exact ⟨rfl, Below.refl _ _⟩

theorem copy_any (d : Nat) (kind : Int) (hs : List UInt64) (wait : List UInt8) (n : UInt64) (wv : Value) (w : World) (h : HashAt w d kind hs wait n wv) (hl : wait.length ≤ 140737488355328) (hK : KAt w) :
    Calls Tryd.prog 56 #[.pointer (some ⟨d, 0, none⟩)] w fun e w' => ∃ d' wv', e = .returned (.pointer (some ⟨d', 0, none⟩)) ∧ w.heap.size ≤ d' ∧ HashAt w' d' kind hs wait n wv' ∧
      (∀ g, wv'.ownBlock = some g → w.heap.size ≤ g) ∧ Below w.heap.size w w' := by
  obtain ⟨hk, hB, h8, hO, hd0⟩ := h
  have hsz : (hcells kind hs wv n).size = 11 := by simp [hcells, h8]
  have hi : (Tryd.prog.info? 91).map (·.size) = some (hcells kind hs wv n).size := by rw [hsz]; kernel_rfl
  have hone : (hcells kind hs wv n).toList.all (·.oneCell') = true := by
    obtain ⟨A, c, rfl, _⟩ := hO.shape
    match hs, h8 with
    | [_, _, _, _, _, _, _, _], _ => rfl
  obtain ⟨A, c, rfl, hr, _⟩ := hO.shape
  have H := Lib.hid (And.intro hk (And.intro hB (And.intro h8 (And.intro hO (And.intro hd0 (And.intro hi hone))))))
  have HK := Lib.hid hK
  have hdl := hB.lt
  have c9 := (hB.cell 9).trans (hcells_get9 kind hs _ n h8)
  clear hk hB h8 hO hd0 hi hone hr hK hsz
  go_enter Tryd.func56, Tryd.ntmps56
  go_wp2_with (first
    | (refine wpList_load_arr rfl 91 _ rfl d 91 _ H.out.2.1 rfl _ Tryd.underlying91 rfl H.out.2.2.2.2.2.1 ?_)
    | (refine wpList_store_arr rfl 91 (.tmp 3) _ rfl w.heap.size 91 #[.int .i64 0, .int .u64 0, .int .u64 0, .int .u64 0, .int .u64 0, .int .u64 0, .int .u64 0, .int .u64 0, .int .u64 0, .slice none 0 0, .int .u64 0] (.int .i64 kind :: (hs.map U64 ++ [.slice A wait.length c, U64 n])) (Blk.new w 91 #[.int .i64 0, .int .u64 0, .int .u64 0, .int .u64 0, .int .u64 0, .int .u64 0, .int .u64 0, .int .u64 0, .int .u64 0, .slice none 0 0, .int .u64 0]) rfl rfl H.out.2.2.2.2.2.1 (by simp [H.out.2.2.1]) H.out.2.2.2.2.2.2 ?_; intro w3 hB3 hT3; have hbel : Below w.heap.size w w3 := below_turn ((Below.refl _ w).alloc (Nat.le_refl _) (.cells #[.int .i64 0, .int .u64 0, .int .u64 0, .int .u64 0, .int .u64 0, .int .u64 0, .int .u64 0, .int .u64 0, .int .u64 0, .slice none 0 0, .int .u64 0] 91)) hT3 (by simp) (by simp); clear hT3; replace c9 := (hbel.cell (p := ⟨d, 9, none⟩) hdl).trans c9; have hO3 := H.out.2.2.2.1.below hbel; have HC := Lib.hid (clone_own _ _ _ _ hO3 hl); have f9 := hB3.frozen 9; have b9 := (hB3.cell 9).trans (hcells_get9 kind hs (.slice A wait.length c) n H.out.2.2.1); have H3 := Lib.hid (And.intro hB3 hbel); clear hB3 hO3)
    | (go_at_call 23; refine HC.out.mono ?_; rintro e w4 ⟨v4, rfl, ho4, hb4⟩; have f9 := (hb4.frozen (p := ⟨w.heap.size, 9, none⟩) H3.out.1.lt).trans f9; have b9 := (hb4.cell (p := ⟨w.heap.size, 9, none⟩) H3.out.1.lt).trans b9; obtain ⟨A4, c4, rfl, _, _⟩ := ho4.shape))
  go_ret
  obtain ⟨hk, hB, h8, hO, hd0, hi, hone⟩ := H.out
  obtain ⟨hB3, hbel⟩ := H3.out
  have hs3 : w.heap.size < w3.heap.size := hB3.lt
  have hB4 := (hB3.below hb4).set_ 9 (.slice A4 wait.length c4)
  have hB4' : Blk (w4.setCell ⟨w.heap.size, 9, none⟩ (.slice A4 wait.length c4)) w.heap.size 91 (hcells kind hs (.slice A4 wait.length c4) n) := by
    have e := hcells_set9 kind hs (.slice A wait.length c) (.slice A4 wait.length c4) n h8
    rw [← e]; exact hB4
  have hne : ∀ g, (Value.slice A4 wait.length c4).ownBlock = some g → w3.heap.size ≤ g := fun g hg => (ho4.lt hg).1
  refine ⟨w.heap.size, _, rfl, Nat.le_refl _, ⟨hk, hB4', h8, ?_, by have := HK.out.1; omega⟩, fun g hg => by have := hne g hg; omega, ?_⟩
  · exact (ho4.turn ((Turn.refl [w.heap.size] w4).setCell (p := ⟨w.heap.size, 9, none⟩) (.inl (by simp)) _) (fun g hg hm => by have := hne g hg; simp at hm; omega)).mono (by omega)
  · exact (hbel.trans (hb4.mono (by omega))).setCell (Nat.le_refl _) _
end Go.Proofs.YtdgjjmaiibafhaaDoor
