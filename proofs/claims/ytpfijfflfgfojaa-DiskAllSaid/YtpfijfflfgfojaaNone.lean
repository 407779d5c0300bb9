/-
  'baileylaw13.DiskNone' returns true: no device is dead and tells nothing. No condition.
-/
import Derived.Test.YtpfijfflfgfojaaBegun
import Derived.ProofKit
import Derived.OpenShut
namespace Go.Proofs.Ytpfijfflfgfojaa
open Go.RowKit
attribute [local go_sem] Oper.semAt_some

/-- The iterator over no disk makes no round. -/
theorem dirty_none (bx : Nat) : Iter Try.prog 32 #[.pointer (some ⟨bx, 0, none⟩)] (fun _ args _ => args.size = 1) (fun _ W => W.cell? ⟨bx, 0, none⟩ = some (.pointer none)) 0 [] := by
  intro l J Jx W hJ hJx hY h0 hM
  refine callsIn_of_wp Try.func32 rfl trivial ?_ rfl
  simp only [Try.ntmps32, List.size_toArray, List.length_cons, List.length_nil, Nat.reduceAdd, Nat.reduceSub, Array.replicate_succ, Array.replicate_zero, List.push_toArray, List.append_toArray, List.nil_append, List.cons_append]
  clear hJ hJx hY
  gi_wp2_with (refine ⟨trivial, ?_⟩; gi_at_call 22; refine (callsIn_wide.2 (sectors_nil _)).mono ?_; rintro e w' ⟨rfl, rfl⟩)
  gi_loopw [6] (fun i wr => i = .int .i64 0 ∧ J 0 wr) (fun _ _ => 0)
  case atStart => exact ⟨rfl, h0⟩
  case round =>
    obtain ⟨rfl, hJ0⟩ := hrel
    gi_wp2
    go_end0
    exact ⟨⟨_, rfl⟩, .inl hJ0⟩

set_option maxHeartbeats 1000000 in
theorem none_walk (w : World) : Calls Try.prog 4 #[] w fun e w' => e = .returned (.bool true) ∧ Below w.heap.size w w' := by
  refine calls_of_marks Try.func4 rfl ?_
  simp only [Try.ntmps4, List.size_toArray, List.length_cons, List.length_nil, Nat.reduceAdd, Nat.reduceSub, Array.replicate_succ, Array.replicate_zero, List.push_toArray, List.append_toArray, List.nil_append, List.cons_append]
  have hne := neqNilSeq
  go_wp2_with (first
    | (go_at_call 13; (with_reducible refine (fuse_nil _ _).mono ?_); rintro e w' ⟨rfl, rfl⟩)
    | (go_at_call 21; (with_reducible refine (dirty_any none _).mono ?_); rintro e w5 ⟨rfl, rfl⟩))
  have hal : Below w.heap.size w ((w.alloc (.cells #[.pointer none] 24)).alloc (.cells #[.int .i64 0] 3)) := ((Below.refl _ _).alloc (Nat.le_refl _) _).alloc (by simp) _
  have hk5 : Blk ((w.alloc (.cells #[.pointer none] 24)).alloc (.cells #[.int .i64 0] 3)) (w.heap.size + 1) 3 #[.int .i64 0] := by
    have := Blk.new (w.alloc (.cells #[.pointer none] 24)) 3 #[.int .i64 0]
    simpa using this
  have hbx5 : ((w.alloc (.cells #[.pointer none] 24)).alloc (.cells #[.int .i64 0] 3)).cell? ⟨w.heap.size, 0, none⟩ = some (.pointer none) := by simp
  have hz5 : ((w.alloc (.cells #[.pointer none] 24)).alloc (.cells #[.int .i64 0] 3)).heap.size = w.heap.size + 2 := by simp
  revert hal hk5 hbx5 hz5
  generalize ((w.alloc (.cells #[.pointer none] 24)).alloc (.cells #[.int .i64 0] 3)) = w5
  intro hal hk5 hbx5 hz5
  refine wp_range0 (gf := 32) (lb := #[.pointer (some ⟨w.heap.size, 0, none⟩)]) rfl (fun _ _ => by kernel_rfl) (dirty_none w.heap.size)
    (fun k args W h => h) (by simp) (fun k W => Blk W (w.heap.size + 1) 3 #[.int .i64 0] ∧ Below w.heap.size w W) (fun _ _ _ => False) ?hI (fun _ _ _ _ _ h => h.elim) ?hM ?hA ⟨hk5, hal⟩ hbx5 ?hM1 ?hbody ?hdone ?hstop
  case hI =>
    rintro k W1 W2 S ⟨h1, h2⟩ ht hS
    have hS' : ∀ t ∈ S, t = w.heap.size + 3 := by
      intro t h
      rcases hS t h with h | ⟨h, _⟩
      · simp at h
      · omega
    exact ⟨h1.turn ht (fun h => by have := hS' _ h; omega), below_turn h2 ht (fun t h => by have := hS' _ h; omega) h2.size⟩
  case hM =>
    rintro k W1 W2 h1 _ ht
    rw [hz5] at ht
    exact cell_turn h1 ht (by simp; omega)
  case hA => intro k args W1 W2 h _ _; exact h
  case hM1 => intro W ht; exact cell_turn hbx5 ht (by simp)
  case hbody => intro l k args W hk; omega
  case hdone =>
    rintro W hlt ⟨h1, h2⟩ hK
    rw [hz5] at hlt hK ⊢
    go_wp2_with fail
    with_reducible refine (begun_any W).mono ?_
    rintro e W2 ⟨rfl, hb2⟩
    have hc := (h1.below hb2).cell 0
    simp at hc
    have hK2 := (hb2.block _ (by omega)).trans hK
    have hB2 := h2.trans (hb2.mono h2.size)
    have hz2 := hb2.size
    have hlt2 : w.heap.size + 1 < W2.heap.size := by omega
    clear h1 hK h2 hb2 hk5 hal hbx5
    have hM := Try.prog_make 256 (by omega)
    rw [show ((256 : Nat) : Int) = 256 from rfl] at hM
    go_wp2_with (first
      | (go_at_call 22; (with_reducible refine (sectors_nil _).mono ?_); rintro e w' ⟨rfl, rfl⟩)
      | (go_at_call 23; (with_reducible refine (read_nil _ _).mono ?_); rintro e w' ⟨rfl, rfl⟩)
      | (go_at_call 9; (with_reducible refine (write_nil _ _ _ _ _).mono ?_); rintro e w' ⟨rfl, rfl⟩)
      | (go_at_call 11; (with_reducible refine (sync_nil _).mono ?_); rintro e w' ⟨rfl, rfl⟩)
      | (go_at_call 24; (with_reducible refine (dead_nil _).mono ?_); rintro e w' ⟨rfl, rfl⟩)
      | (go_at_call 25; (with_reducible refine (count_nil _).mono ?_); rintro e w' ⟨rfl, rfl⟩)
      | (go_at_call 15; (with_reducible refine (crash_nil _ _).mono ?_); rintro e w' ⟨rfl, rfl⟩)
      | (go_at_call 19; (with_reducible refine (image_nil _).mono ?_); rintro e w' ⟨rfl, rfl⟩)
      | (go_at_call 6; (with_reducible refine (new_out _ ?_ _).mono ?_); (first | omega | exact .inl (by omega) | exact .inr (by omega)); rintro e w' ⟨rfl, rfl⟩))
    refine ret_mark rfl (D := w.heap.size + 2) ((Below.heap_alloc W2 _ _ (by omega)).trans hK2) (fun W' => results_tmp rfl _ _ _) ⟨rfl, ?_⟩
    exact below_turn (hB2.alloc hB2.size _) ((Turn.refl [w.heap.size + 2] _).putObj (.inl (by simp)) _) (by intro t h; simp at h; omega) (by simp; omega)
  case hstop => intro c k W _ _ h; exact h.elim

namespace LiftDiskNone
open Go.ChangeShapes Go.WideShapes Go.ChangeAt
set_option linter.unusedVariables false
theorem own : ownKnob Try.prog.godebug = none := by kernel_rfl
set_option maxRecDepth 100000 in
theorem lifted (os : Os) (started : os.Started) (H : Type) (enc : TypeId × Value → H) :
    ReturnsInHanded {} Try.checked os 4 .any (Rows.diskNoneSpec.pre6 enc Try.prog Try.f4 Rows.diskNoneRow.domain false) (Rows.diskNoneSpec.post enc Try.prog Try.f4 false true false false) := by
  refine returnsInHanded_of_change (C := Try.checked) own started (by kernel_rfl) Try.func4
    (ChangeSpec.witness6 (enc := enc) (C := Try.checked) false ⟨#[], #[], []⟩ 8 (by kernel_rfl) (by kernel_rfl) (by kernel_rfl) (by kernel_rfl)) ?_
  intro W base args ds gs before hval0 hW hcnd _
  have hval : ∀ (j : Nat) t v, Try.f4.params[j]? = some t → args[j]? = some v → Value.okWide Try.prog W .any base t v := hval0
  have hW' := hW
  obtain ⟨p, q, hA0, hV, rfl, hfz, hnd⟩ := hW
  have hA : DataW.TrodAll enc Try.prog W 0 (fun _ => true) true Try.f4.params.toList args.toList ds p := hA0
  rw [Try.params4] at hA hval
  obtain ⟨rfl, rfl, rfl⟩ := trodAll_none hA
  obtain ⟨rfl, rfl⟩ := trodVars_none hV
  clear hA0 hval0
  simp only [List.append_nil] at hW'
  refine (none_walk W).mono fun e W' ⟨he, bel⟩ => ?_
  subst he
  exact ⟨_, rfl, _, _, _, [], _, [], hW', trodAll_mk1 (shut_bool Try.underlying4 _), trodAll_mk0, rfl, bel.frame _, fun h => by cases h⟩
theorem over : Rows.diskNoneRow.holds Try.pinned (OpenSpec.ofChange Rows.diskNoneSpec) :=
  OpenClaim.holds_of_wide 4 Try.f4 rfl rfl rfl rfl rfl rfl rfl ⟨rfl, rfl, rfl, rfl, rfl⟩ rfl rfl rfl rfl rfl (by kernel_rfl) Try.func4 (by kernel_rfl)
    (of_decide_eq_true (by kernel_rfl)) (by unfold Func.isWrapper; first | (rw [if_pos (by decide +kernel)]; kernel_rfl) | (rw [if_neg (by decide +kernel)]; exact ⟨rfl, rfl⟩))
    (fun os started H enc _ => lifted os started H enc)
end LiftDiskNone
/-- The statement. -/
theorem diskNone_holds : Rows.DiskNoneSaid := LiftDiskNone.over
#print axioms diskNone_holds
end Go.Proofs.Ytpfijfflfgfojaa
