/-
  Contracts of disk.Image.
-/
import Derived.Test.YtpfijfflfgfojaaDisk5
namespace Go.Proofs.Ytpfijfflfgfojaa
open Go.RowKit

def Dsk.imageTo (s : Dsk) (k : Nat) : List UInt8 := (s.secs.take k).flatMap Sec.read
def Dsk.image (s : Dsk) : List UInt8 := s.secs.flatMap Sec.read
theorem Dsk.imageTo_zero (s : Dsk) : s.imageTo 0 = [] := rfl
theorem Dsk.imageTo_all (s : Dsk) : s.imageTo s.secs.length = s.image := by simp [imageTo, image]
theorem Dsk.imageTo_succ (s : Dsk) (k : Nat) (h : k < s.secs.length) : s.imageTo (k + 1) = s.imageTo k ++ s.secs[k].read := by
  unfold imageTo
  rw [List.take_succ_eq_append_getElem h, List.flatMap_append]
  simp

theorem Sec.read_len {w : World} {d L : Nat} {xs : List SecV} {s : Dsk} (h : DiskAt w d L xs s) (i : Nat) (hi : i < s.secs.length) : s.secs[i].read.length = 256 := by
  obtain ⟨x, hx⟩ : ∃ x, xs[i]? = some x := ⟨_, List.getElem?_eq_getElem (by rw [h.2.2.1.1]; exact hi)⟩
  have hs := h.2.2.1.2 i x _ hx (List.getElem?_eq_getElem hi)
  unfold Sec.read
  cases hn : s.secs[i].now with
  | none => exact zs_len 256
  | some l => simpa using hs.2.2.2.1 l hn
theorem Dsk.imageTo_len {w : World} {d L : Nat} {xs : List SecV} {s : Dsk} (h : DiskAt w d L xs s) (k : Nat) (hk : k ≤ s.secs.length) : (s.imageTo k).length = k * 256 := by
  induction k with
  | zero => rfl
  | succ k ih => rw [Dsk.imageTo_succ s k (by omega), List.length_append, ih (by omega), Sec.read_len h k (by omega)]; omega

theorem image_nil (w : World) : Calls Try.prog 19 #[.pointer none] w fun e w' => e = .returned (.slice none 0 0) ∧ w = w' := by
  go_enter Try.func19, Try.ntmps19
  go_wp2_with (go_at_call 22; refine (sectors_nil _).mono ?_; rintro e w' ⟨rfl, rfl⟩)
  refine wp_loop_rounds 1 ?_
  rw [rounds_succ]
  go_wp2
  go_ret
  exact ⟨rfl, rfl⟩

set_option maxHeartbeats 1000000 in
theorem image_any (d L : Nat) (xs : List SecV) (s : Dsk) (w : World) (h : DiskAt w d L xs s) :
    Calls Try.prog 19 #[.pointer (some ⟨d, 0, none⟩)] w fun e w' =>
      ∃ v', e = .returned v' ∧ Own w' w.heap.size v' s.image ∧ Below w.heap.size w w' := by
  obtain ⟨i0, hi, hz0, hz1, hz2⟩ := info_parts Try.infoU8
  have hlen := h.2.2.2.2
  go_enter Try.func19, Try.ntmps19
  go_wp2_with (go_at_call 22; refine (sectors_any d L xs s _ h).mono ?_; rintro e w' ⟨rfl, rfl⟩)
  go_loopw [3, 7] (fun v i wr => ∃ k : Nat, k ≤ s.secs.length ∧ i = .int .i64 k ∧ Own wr w.heap.size v (s.imageTo k) ∧ Below w.heap.size w wr) (fun _ i _ => s.secs.length - (intOf i).toNat)
  case atStart => exact ⟨0, by omega, rfl, World.ownsRow_nil _ _ _ _, Below.refl _ _⟩
  case round =>
    obtain ⟨k, hk, rfl, hown, hbel⟩ := hrel
    by_cases hlt : k < s.secs.length
    · have hki : (k : Int) < s.secs.length := by omega
      have hA := h.below hbel
      have hil := Dsk.imageTo_len h k hk
      have hR := Lib.hid (read_in d L xs s wr hA k hlt)
      have hsucc := Lib.hid (Dsk.imageTo_succ s k hlt)
      have hrl := Sec.read_len h k hlt
      have Hil := Lib.hid hil
      have Hrl := Lib.hid hrl
      clear hA h hil hrl
      go_wp2_with (first
        | (go_at_call 23; refine hR.out.mono ?_; rintro e w' ⟨g, c', rfl, hr, _hl, hb2⟩; have Hl := Lib.hid _hl; clear _hl; have ho2 : Own w' w.heap.size u3 (s.imageTo k) := hown.below hb2; have hcs := Lib.hid hr.at_.adds; clear hr)
        | (at_builtin; refine wpList_append_own _ rfl _ _ 28 rfl w.heap.size 5 i0 (.int .u8 0) 1 1 Try.underlying28 hi hz0 hz1 hz2 rfl (by decide) _ _ _ rfl ho2 ⟨g, 0, none⟩ 256 c' (s.secs[k].read.map B) rfl ?c1 hcs.out (map_one _) ?c3 ?c4 ?c5 ?_))
      case c1 => rw [List.length_map, Hrl.out]
      case c3 => rw [Hil.out]; unfold maxLen; omega
      case c4 => rw [Hil.out]; omega
      case c5 => exact Nat.le_trans hbel.size hb2.size
      intro v' w2 ho hg _
      have HO : Own w2 w.heap.size v' (s.imageTo (k + 1)) := by
        rw [hsucc.out]
        unfold Own
        rw [List.length_append, Hrl.out, List.map_append]
        exact ho
      have HB : Below w.heap.size w w2 := (hbel.trans (hb2.mono hbel.size)).grown hg (Nat.le_trans hbel.size hb2.size) (fun j hj => (ho2.lt hj).1)
      clear ho hg ho2 hown hcs hb2
      go_wp2
      go_roundw
      case rel => exact ⟨k + 1, by omega, by go_num, HO, HB⟩
      case measure => simp [intOf]; omega
    · obtain rfl : k = s.secs.length := by omega
      rw [Dsk.imageTo_all] at hown
      have hq : ¬ ((s.secs.length : Int) < s.secs.length) := by omega
      go_wp2
      go_ret
      exact ⟨_, rfl, hown, hbel⟩
end Go.Proofs.Ytpfijfflfgfojaa
