/-
  Contracts of the reference's helpers: words, pad, Join.
-/
import Derived.Test.YtpccmcpeijmekaaDoorKey
import Derived.Deep.RegionHeld3
import Derived.Deep.DrawnRows
namespace Go.Proofs.YtpccmcpeijmekaaDoor
open Go.RowKit
attribute [local go_sem ↓] Go.wp_at_zero Go.wp_at_succ

/-- Words of 32 bits lie in block g. -/
def W32 (w : World) (g : Nat) (l : List UInt32) : Prop := g < w.heap.size ∧ ∀ k x, l[k]? = some x → w.cell? ⟨g, k, none⟩ = some (U32 x)
theorem W32.below {w w' : World} {B g : Nat} {l : List UInt32} (h : W32 w g l) (hg : g < B) (hb : Below B w w') : W32 w' g l :=
  ⟨Nat.lt_of_lt_of_le h.1 hb.size, fun k x hx => (hb.cell (p := ⟨g, k, none⟩) hg).trans (h.2 k x hx)⟩
set_option maxHeartbeats 1000000 in
theorem words_any (g n c : Nat) (l : List UInt32) (w : World) (h : W32 w g l) (hn : n = l.length) (h8 : n ≤ 1000) :
    Calls Tryd.prog 50 #[.slice (some ⟨g, 0, none⟩) n c] w fun e w' => ∃ v, e = .returned v ∧ Own w' w.heap.size v (l.flatMap bytes32) ∧ Below w.heap.size w w' := by
  have HH := Lib.hid (And.intro h hn)
  clear h hn
  go_enter Tryd.func50, Tryd.ntmps50
  go_wp2
  go_loopw [3, 4] (fun v i wr => ∃ k : Nat, k ≤ n ∧ i = .int .i64 k ∧ Own wr w.heap.size v ((l.take k).flatMap bytes32) ∧ Below w.heap.size w wr) (fun _ i _ => n - (intOf i).toNat)
  case atStart => exact ⟨0, by omega, rfl, World.ownsRow_nil _ _ _ _, Below.refl _ _⟩
  case round =>
    obtain ⟨k, hk, rfl, hO, hB⟩ := hrel
    rcases Nat.lt_or_ge k n with hlt | hge
    · obtain ⟨x, hx⟩ : ∃ x, l[k]? = some x := ⟨_, List.getElem?_eq_getElem (by rw [← HH.out.2]; exact hlt)⟩
      have hc := (HH.out.1.below HH.out.1.1 hB).2 k x hx
      have hki : (k : Int) < n := by omega
      have hk0 : (0 : Int) ≤ k := by omega
      have hlen : ((l.take k).flatMap bytes32).length = k * 4 := by
        rw [flat_len _ _ 4 (fun _ => rfl), List.length_take, ← HH.out.2]; congr 1; omega
      have HL := Lib.hid (And.intro hB (And.intro hO (And.intro hx (And.intro hlen hlt))))
      have hsz := hB.size
      clear hB hO hx hlen hlt hk
      go_wp2_with fail
      go_region_held3 (fun w' => w'.cell? ⟨g, k, none⟩ = some (U32 x)) (first | go_keep | exact hG.kept HH.out.1.1 (by assumption)) ((refine step_app_lit _ (.tmp 35) w.heap.size u3 ((l.take k).flatMap bytes32) HL.out.2.1 hsz (bytes32 x) (by rw [HL.out.2.2.2.1]; omega) (by simp [bytes32]) rfl rfl rfl rfl rfl rfl ?_; intro A2 n2 c2 w2 hn2 hG))
      go_wp2
      go_roundw
      case rel =>
        obtain ⟨hB, hO, hx, hlen, hlt⟩ := HL.out
        refine ⟨k + 1, by omega, by go_num, ?_, (hB.alloc hB.size _).drew.trans hG.below⟩
        rw [List.take_add_one, hx]; simpa using hG.own
      case measure => simp [intOf]; omega
    · obtain rfl : k = n := by omega
      have hq : ¬ ((k : Int) < k) := by omega
      have Hr := Lib.hid (And.intro hO hB)
      clear hO hB hk hge
      go_wp2
      go_ret
      refine ⟨_, rfl, ?_, Hr.out.2⟩
      have := Hr.out.1
      rwa [List.take_of_length_le (by rw [← HH.out.2]; omega)] at this
end Go.Proofs.YtpccmcpeijmekaaDoor
