/-
  Both disks alike, plainly; what each step makes of it; the sectors that were not synced, one after the other.
-/
import Derived.Test.YtpfijfflfgfojaaRef4
import Derived.Test.YtpfijfflfgfojaaBegun
namespace Go.Proofs.Ytpfijfflfgfojaa
open Go.RowKit

/-- Both disks are alike. -/
structure Match (s : Dsk) (r : RDsk) : Prop where
  len : s.secs.length = r.now.length
  now : ∀ (i : Nat) (x : Sec) (y : List UInt8), s.secs[i]? = some x → r.now[i]? = some y → x.read = y
  safe : ∀ (i : Nat) (x : Sec) (y : List UInt8), s.secs[i]? = some x → r.safe[i]? = some y → x.syn.getD (zs 256) = y
  wet : ∀ (i : Nat) (x : Sec) (y : Bool), s.secs[i]? = some x → r.wet[i]? = some y → x.dirty = y
  dead : s.dead = r.dead
  count : s.count = r.count
  bare : s.fused = false → r.fuse = -1 ∧ s.dead = false
  left : s.fused = true → s.dead = false → 1 ≤ s.left ∧ s.left = r.fuse
  gone : s.dead = true → r.fuse = 0

def posIn (l : List Nat) : Nat → Int
  | 0 => -1
  | k + 1 => (l.getD k 0 : Nat)
theorem posIn_left (l m : List Nat) (k : Nat) (h : k ≤ l.length) : posIn (l ++ m) k = posIn l k := by
  cases k with
  | zero => rfl
  | succ k => simp only [posIn, List.getD_eq_getElem?_getD]; rw [List.getElem?_append_left (by omega)]
theorem filter_gap (f : Nat → Bool) (n : Nat) :
    (∀ k i, ((List.range n).filter f)[k]? = some i → i < n ∧ f i = true ∧ posIn ((List.range n).filter f) k < i ∧ ∀ m : Nat, posIn ((List.range n).filter f) k < m → m < i → f m = false) ∧
    (∀ m : Nat, posIn ((List.range n).filter f) ((List.range n).filter f).length < m → m < n → f m = false) ∧
    posIn ((List.range n).filter f) ((List.range n).filter f).length < n := by
  induction n with
  | zero => exact ⟨fun k i h => by simp at h, fun m _ h => by omega, by simp [posIn]⟩
  | succ n ih =>
    obtain ⟨h1, h2, h3⟩ := ih
    rw [List.range_succ, List.filter_append]
    generalize hl : (List.range n).filter f = l at h1 h2 h3
    cases hf : f n with
    | false =>
      simp only [List.filter_cons, hf, Bool.false_eq_true, if_false, List.filter_nil, List.append_nil]
      refine ⟨fun k i h => ?_, fun m hm hn => ?_, by omega⟩
      · obtain ⟨a, b, c, d⟩ := h1 k i h
        exact ⟨by omega, b, c, d⟩
      · rcases Nat.lt_or_ge m n with h | h
        · exact h2 m hm h
        · obtain rfl : m = n := by omega
          exact hf
    | true =>
      simp only [List.filter_cons, hf, if_true, List.filter_nil]
      refine ⟨fun k i h => ?_, fun m hm hn => ?_, ?_⟩
      · rcases Nat.lt_or_ge k l.length with hk | hk
        · rw [List.getElem?_append_left hk] at h
          rw [posIn_left _ _ _ (by omega)]
          obtain ⟨a, b, c, d⟩ := h1 k i h
          exact ⟨by omega, b, c, d⟩
        · rw [List.getElem?_append_right hk] at h
          obtain rfl : k = l.length := by
            cases hq : k - l.length with
            | zero => omega
            | succ q => rw [hq] at h; simp at h
          simp at h
          subst h
          rw [posIn_left _ _ _ (by omega)]
          exact ⟨by omega, hf, h3, h2⟩
      · simp only [List.length_append, List.length_singleton, posIn] at hm
        rw [List.getD_eq_getElem?_getD, List.getElem?_append_right (by omega)] at hm
        simp at hm
        omega
      · simp only [List.length_append, List.length_singleton, posIn]
        rw [List.getD_eq_getElem?_getD, List.getElem?_append_right (by omega)]
        simp
        omega
/-- The place of the sector that was told last. -/
def wetPos (s : Dsk) (k : Nat) : Int := posIn (s.wet s.secs.length) k
theorem wetPos_succ (s : Dsk) (k j : Nat) (h : (s.wet s.secs.length)[k]? = some j) : wetPos s (k + 1) = j := by
  unfold wetPos posIn
  simp [List.getD, h]
theorem wet_at (s : Dsk) (k j : Nat) (h : (s.wet s.secs.length)[k]? = some j) : j < s.secs.length ∧ (∃ x, s.secs[j]? = some x ∧ x.dirty = true) ∧ wetPos s k < j ∧ ∀ m : Nat, wetPos s k < m → m < j → ∀ x, s.secs[m]? = some x → x.dirty = false := by
  obtain ⟨a, b, c, d⟩ := (filter_gap (fun i => (s.secs[i]?).any fun y : Sec => y.dirty) s.secs.length).1 k j h
  refine ⟨a, ?_, c, fun m h1 h2 x hx => ?_⟩
  · simp only [List.getElem?_eq_getElem a, Option.any_some] at b
    exact ⟨_, List.getElem?_eq_getElem a, b⟩
  · have := d m h1 h2
    simp only [hx, Option.any_some] at this
    exact this
theorem wet_end (s : Dsk) (m : Nat) (h1 : wetPos s (s.wet s.secs.length).length < m) (x : Sec) (hx : s.secs[m]? = some x) : x.dirty = false := by
  have := (filter_gap (fun i => (s.secs[i]?).any fun y : Sec => y.dirty) s.secs.length).2.1 m h1 (List.getElem?_eq_some_iff.1 hx).1
  simp only [hx, Option.any_some] at this
  exact this
theorem wetPos_end (s : Dsk) : wetPos s (s.wet s.secs.length).length < s.secs.length := (filter_gap (fun i => (s.secs[i]?).any fun y : Sec => y.dirty) s.secs.length).2.2
theorem wetPos_ge (s : Dsk) (k : Nat) : -1 ≤ wetPos s k := by
  unfold wetPos
  cases k with
  | zero => simp [posIn]
  | succ k => simp only [posIn]; omega

theorem wet_cell {w : World} {p : RPl} {s : Dsk} {r : RDsk} (h : RefAt w p r) (hm : Match s r) (m : Nat) (x : Sec) (hx : s.secs[m]? = some x) : w.cell? ⟨p.gW, m, none⟩ = some (.bool x.dirty) := by
  have hl : m < r.wet.length := by rw [h.lenW, ← hm.len]; exact (List.getElem?_eq_some_iff.1 hx).1
  have := h.rowW.cell m
  rw [this]
  simp [hl, hm.wet m x _ hx (List.getElem?_eq_getElem hl)]


theorem match_new (n : Nat) : Match (Dsk.new n) (RDsk.new n) := by
  refine ⟨by simp [Dsk.new, RDsk.new], ?_, ?_, ?_, by simp [Dsk.new, RDsk.new, RDsk.dead], rfl, fun _ => ⟨rfl, rfl⟩, fun h => by simp [Dsk.new] at h, fun h => by simp [Dsk.new] at h⟩
  · intro i x y hx hy
    simp only [Dsk.new, RDsk.new, List.getElem?_replicate] at hx hy
    split at hx
    · rename_i hi
      rw [if_pos hi] at hy
      cases hx; cases hy
      rfl
    · cases hx
  · intro i x y hx hy
    simp only [Dsk.new, RDsk.new, List.getElem?_replicate] at hx hy
    split at hx
    · rename_i hi
      rw [if_pos hi] at hy
      cases hx; cases hy
      rfl
    · cases hx
  · intro i x y hx hy
    simp only [Dsk.new, RDsk.new, List.getElem?_replicate] at hx hy
    split at hx
    · rename_i hi
      rw [if_pos hi] at hy
      cases hx; cases hy
      rfl
    · cases hx
/-- A Write or a Sync is counted. -/
theorem match_done {s : Dsk} {r : RDsk} (h : Match s r) (hd : s.dead = false) : Match s.done r.step := by
  have h5 := h.dead
  have h7 := h.bare
  have h8 := h.left
  have h6 := h.count
  unfold Dsk.done RDsk.step
  cases hf : s.fused with
  | false =>
    obtain ⟨e1, e2⟩ := h7 hf
    simp only [Bool.false_eq_true, if_false]
    rw [e1, if_neg (by omega)]
    refine ⟨h.len, h.now, h.safe, h.wet, ?_, ?_, ?_, ?_, ?_⟩
    · rw [h5]; unfold RDsk.dead; rw [e1]
    · simp [h6]
    · exact fun _ => ⟨rfl, e2⟩
    · intro hh; simp at hh
    · intro hh; simp only at hh; rw [hd] at hh; cases hh
  | true =>
    obtain ⟨e1, e2⟩ := h8 hf hd
    simp only [if_true]
    rw [if_pos (by omega)]
    refine ⟨h.len, h.now, h.safe, h.wet, ?_, ?_, ?_, ?_, ?_⟩
    · simp only [RDsk.dead]
      rw [Bool.eq_iff_iff]
      simp; omega
    · simp [h6]
    · intro hh; simp at hh
    · intro _ hh
      simp at hh ⊢; omega
    · intro hh
      simp at hh ⊢; omega
theorem match_put {s : Dsk} {r : RDsk} (h : Match s r) (i : Nat) (l : List UInt8) (hw : r.wet.length = r.now.length) : Match (s.put i l) (r.put i l) := by
  have hl := h.len
  refine ⟨by simp [Dsk.put, RDsk.put, hl], ?_, ?_, ?_, h.dead, h.count, h.bare, h.left, h.gone⟩
  · intro j x y hx hy
    simp only [Dsk.put, RDsk.put] at hx hy
    rw [List.getElem?_modify] at hx
    rw [List.getElem?_set] at hy
    by_cases hij : i = j
    · subst hij
      rw [if_pos rfl] at hy
      split at hy
      · cases hs : s.secs[i]? with
        | none => rw [hs] at hx; simp at hx
        | some z => rw [hs] at hx; simp at hx hy; subst hx hy; simp [Sec.put, Sec.read]
      · cases hy
    · rw [if_neg hij] at hy
      cases hs : s.secs[j]? with
      | none => rw [hs] at hx; simp at hx
      | some z => rw [hs] at hx; simp [hij] at hx; subst hx; exact h.now j z y hs hy
  · intro j x y hx hy
    simp only [Dsk.put, RDsk.put] at hx hy
    rw [List.getElem?_modify] at hx
    cases hs : s.secs[j]? with
    | none => rw [hs] at hx; simp at hx
    | some z =>
      rw [hs] at hx
      simp only [Option.map_eq_map, Option.map_some, Option.some.injEq] at hx
      have : x.syn = z.syn := by rw [← hx]; split <;> simp [Sec.put]
      rw [this]; exact h.safe j z y hs hy
  · intro j x y hx hy
    simp only [Dsk.put, RDsk.put] at hx hy
    rw [List.getElem?_modify] at hx
    rw [List.getElem?_set] at hy
    by_cases hij : i = j
    · subst hij
      rw [if_pos rfl] at hy
      split at hy
      · cases hs : s.secs[i]? with
        | none => rw [hs] at hx; simp at hx
        | some z => rw [hs] at hx; simp at hx hy; subst hx hy; simp [Sec.put]
      · cases hy
    · rw [if_neg hij] at hy
      cases hs : s.secs[j]? with
      | none => rw [hs] at hx; simp at hx
      | some z => rw [hs] at hx; simp [hij] at hx; subst hx; exact h.wet j z y hs hy
theorem match_sync {s : Dsk} {r : RDsk} (h : Match s r) : Match { s with secs := s.secs.map Sec.sync } r.sync := by
  refine ⟨by simp [RDsk.sync, h.len], ?_, ?_, ?_, h.dead, h.count, h.bare, h.left, h.gone⟩
  · intro j x y hx hy
    simp only [RDsk.sync] at hx hy
    rw [List.getElem?_map] at hx
    cases hs : s.secs[j]? with
    | none => rw [hs] at hx; simp at hx
    | some z => rw [hs] at hx; simp at hx; subst hx; exact h.now j z y hs hy
  · intro j x y hx hy
    simp only [RDsk.sync] at hx hy
    rw [List.getElem?_map] at hx
    cases hs : s.secs[j]? with
    | none => rw [hs] at hx; simp at hx
    | some z => rw [hs] at hx; simp at hx; subst hx; exact h.now j z y hs hy
  · intro j x y hx hy
    simp only [RDsk.sync] at hx hy
    rw [List.getElem?_map] at hx hy
    cases hs : s.secs[j]? with
    | none => rw [hs] at hx; simp at hx
    | some z =>
      rw [hs] at hx; simp at hx; subst hx
      cases hw : r.wet[j]? with
      | none => rw [hw] at hy; simp at hy
      | some q => rw [hw] at hy; simp at hy; simp [Sec.sync, hy]
theorem match_fuse {s : Dsk} {r : RDsk} (h : Match s r) (n : Int) : Match (s.fuse n) (r.setFuse n) := by
  unfold Dsk.fuse RDsk.setFuse
  rw [← h.dead]
  cases hd : s.dead with
  | true => simpa [hd] using h
  | false =>
    simp only [Bool.false_eq_true, if_false]
    refine ⟨h.len, h.now, h.safe, h.wet, ?_, h.count, fun hh => by simp at hh, fun _ hh => ?_, fun hh => ?_⟩
    · simp only [RDsk.dead]
      rw [Bool.eq_iff_iff]
      simp
      omega
    · simp at hh ⊢
      omega
    · simp at hh ⊢
      omega
theorem match_crash {s : Dsk} {r : RDsk} (h : Match s r) (kl : List Bool) (kp : Nat → Bool) (hkp : ∀ i, kp i = kl.getD i false) (hw : r.wet.length = r.now.length) (hs : r.safe.length = r.now.length) : Match (crashTo s kp s.secs.length) (r.crash kl) := by
  have hlen := h.len
  have key : ∀ (i : Nat) (x : Sec) (y : List UInt8), (crashTo s kp s.secs.length).secs[i]? = some x → (r.leftOf kl)[i]? = some y → x.now.getD (zs 256) = y ∧ x.syn.getD (zs 256) = y ∧ x.dirty = false := by
    intro i x y hx hy
    simp only [crashTo, List.getElem?_mapIdx] at hx
    simp only [RDsk.leftOf, List.getElem?_mapIdx] at hy
    cases h1 : s.secs[i]? with
    | none => rw [h1] at hx; simp at hx
    | some z =>
      have hi := (List.getElem?_eq_some_iff.1 h1).1
      rw [h1] at hx
      simp only [Option.map_some, Option.some.injEq, hi, if_true] at hx
      cases h2 : r.now[i]? with
      | none => rw [h2] at hy; simp at hy
      | some q =>
        rw [h2] at hy
        simp only [Option.map_some, Option.some.injEq] at hy
        obtain ⟨wv, hwv⟩ : ∃ wv, r.wet[i]? = some wv := ⟨_, List.getElem?_eq_getElem (by omega)⟩
        obtain ⟨sv, hsv⟩ : ∃ sv, r.safe[i]? = some sv := ⟨_, List.getElem?_eq_getElem (by omega)⟩
        have e1 := h.wet i z wv h1 hwv
        have e2 := h.now i z q h1 h2
        have e3 := h.safe i z sv h1 hsv
        have e4 : r.wet.getD i false = wv := by simp [List.getD, hwv]
        have e5 : r.safe.getD i [] = sv := by simp [List.getD, hsv]
        rw [e4, e5, ← hkp i, ← e1] at hy
        subst hx
        unfold Sec.left
        cases hz : (z.dirty && kp i) with
        | true =>
          rw [hz] at hy
          simp only [if_true] at hy ⊢
          subst hy
          unfold Sec.read at e2
          refine ⟨e2, e2, ?_⟩; first | rfl | trivial
        | false =>
          rw [hz] at hy
          simp only [Bool.false_eq_true, if_false] at hy ⊢
          subst hy
          refine ⟨e3, e3, ?_⟩; first | rfl | trivial
  refine ⟨by simp [crashTo, RDsk.crash, RDsk.leftOf_len, hlen], ?_, ?_, ?_, by simp [crashTo, Dsk.new, RDsk.crash, RDsk.new, RDsk.dead], rfl, fun _ => ⟨rfl, rfl⟩, fun hh => by simp [crashTo, Dsk.new] at hh, fun hh => by simp [crashTo, Dsk.new] at hh⟩
  · intro i x y hx hy
    exact (key i x y hx hy).1
  · intro i x y hx hy
    exact (key i x y hx hy).2.1
  · intro i x y hx hy
    have hi := (List.getElem?_eq_some_iff.1 hx).1
    simp only [crashTo, List.length_mapIdx] at hi
    obtain ⟨q, hq⟩ : ∃ q, (r.leftOf kl)[i]? = some q := ⟨_, List.getElem?_eq_getElem (by rw [RDsk.leftOf_len]; omega)⟩
    rw [(key i x q hx hq).2.2]
    simp only [RDsk.crash, RDsk.new, List.getElem?_replicate] at hy
    split at hy
    · cases hy; rfl
    · cases hy
theorem match_image {s : Dsk} {r : RDsk} (h : Match s r) : s.image = r.image := by
  unfold Dsk.image RDsk.image
  rw [List.flatMap_def]
  congr 1
  apply List.ext_getElem?
  intro i
  rw [List.getElem?_map]
  rcases Nat.lt_or_ge i s.secs.length with hi | hi
  · have h1 := List.getElem?_eq_getElem hi
    have h2 := List.getElem?_eq_getElem (show i < r.now.length by rw [← h.len]; exact hi)
    rw [h1, h2]
    simp only [Option.map_some, Option.some.injEq]
    exact h.now i _ _ h1 h2
  · rw [List.getElem?_eq_none hi, List.getElem?_eq_none (by rw [← h.len]; exact hi)]
    rfl
end Go.Proofs.Ytpfijfflfgfojaa
