/-
  'baileylaw0.Names' returns true: the names of package api have the document's numbers. No condition.
-/
import Derived.Test.YthldndbhfihakaaRows
import Derived.WalkKit
import Derived.WalkSpells
import Derived.WalkLawsBesides
import Derived.Lib.Hide
import Derived.Deep.QuietTactic
import Derived.BigQuiet
import Derived.ProofKit
import Derived.OpenShut
import Derived.Below
namespace Go.Proofs.Ythldndbhfihakaa
open Go.RowKit

theorem num_any (x : Int) (w : World) :
    Calls Try.prog 4 #[.int .i64 x] w fun e w' => e = .returned (.int .i64 x) ∧ w = w' := by
  go_enter Try.func4, Try.ntmps4
  go_wp2
  go_ret
  exact ⟨rfl, rfl⟩

theorem operwp_value {P : Program} {o : Oper} {a : Act} {w : World} {K : Act → World → Prop} {Q : Exit → Act → World → Prop} (v : Value) (w' : World)
    (h : (execOp a.eval o).run P w = .ok (.value v) w') (hk : K (a.put o.dst v) w') : o.wp P a w K Q := by
  unfold Oper.wp; rw [h]; exact hk

def all191 : List Int := [0, 3, 5, 7, 16, 17, 18, 19, 32, 33, 48, 49, 64, 65, 84, 96, 98, 99, 104, 106, 112, 113, 130, 144, 145, 160, 162, 164, 177, 179, 181, 182, 183, 184, 192, 193, 208, 209, 224, 256, 257, 258, 259, 260, 272, 274, 288, 336, 1, 2, 3, 4, 5, 1, 2, 3, 4, 5, 1, 2, 2, 3, 4, 5, 6, 48, 4096, 65536, 262144, 65536, 64, 16384, 4, 16, 256, 64, 4, 3, 64, 1024, 256, 8, 1, 2, 3, 4, 5, 6, 7, 8, 9, 10, 11, 12, 13, 14, 15, 16, 17, 18, 19, 20, 21, 22, 23, 24, 25, 26, 27, 28, 29, 30, 31, 32, 33, 34, 35, 36, 37, 38, 39, 40, 41, 42, 43, 44, 45, 0, 1, 0, 2, 3, 4, 0, 3, 16, 31, 0, 1, 2, 3, 17, 256, 258, 259, 260, 261, 262, 263, 264, 266, 268, 288, 289, 290, 291, 292, 293, 353, 354, 355, 356, 357, 368, 369, 384, 385, 0, 1, 9, 13, 64, 67, 544, 592, 593, 608, 624, 848, 4160, 4161, 4164, 4176, 4224, 4225, 4226, 4229, 4230, 4231, 4234, 8457]

theorem wpList_run {P : Program} {ops : Array Oper} {rest : List Oper} {o : Oper} {a : Act} {w : World} {Q : Exit → Act → World → Prop} (hgd : o.guard = none) (v : Value) (w' : World)
    (h : (execOp a.eval o).run P w = .ok (.value v) w') (hk : wpList P ops Q rest (a.put o.dst v) w') : wpList P ops Q (o :: rest) a w :=
  wpList_plain hgd fun _ hK => operwp_value v w' h (hK _ _ hk)

def row191 : Obj := .cells (all191.map (Value.int .i64)).toArray 3

/-- Two rows hold the same numbers. -/
def Twin (w : World) (b c n : Nat) : Prop := ∀ k, k < n → ∃ v, w.cell? ⟨b, k, none⟩ = some (.int .i64 v) ∧ w.cell? ⟨c, k, none⟩ = some (.int .i64 v)

theorem Twin.mk (w : World) (b n : Nat) (l : List Int) (hb : b = w.heap.size) (hn : n = l.length) :
    Twin ((w.alloc (.cells (l.map (Value.int .i64)).toArray 3)).alloc (.cells (l.map (Value.int .i64)).toArray 3)) b (b + 1) n := by
  intro k hk
  subst hb hn
  refine ⟨l[k], ?_, ?_⟩
  · rw [World.cell?_alloc_past _ _ _ (by simp), World.cell?_alloc_at _ _ _ _ rfl]
    simp [hk]
  · rw [World.cell?_alloc_at _ _ _ _ (by simp)]
    simp [hk]

set_option maxRecDepth 100000 in
set_option maxHeartbeats 4000000 in
theorem names_walk (w : World) :
    Calls Try.prog 3 #[] w fun e w' => e = .returned (.bool true) ∧ Below w.heap.size w w' := by
  go_enter Try.func3, Try.ntmps3
  go_wp2_with (go_at_call 4; refine (num_any _ _).mono ?_; rintro e w' ⟨rfl, rfl⟩)
  have h1 := Twin.mk w _ 48 [0, 3, 5, 7, 16, 17, 18, 19, 32, 33, 48, 49, 64, 65, 84, 96, 98, 99, 104, 106, 112, 113, 130, 144, 145, 160, 162, 164, 177, 179, 181, 182, 183, 184, 192, 193, 208, 209, 224, 256, 257, 258, 259, 260, 272, 274, 288, 336] rfl rfl
  simp only [List.map_cons, List.map_nil] at h1
  generalize hB : w.heap.size = B at h1 ⊢
  have hb : Below B w ((w.alloc (.cells (([0, 3, 5, 7, 16, 17, 18, 19, 32, 33, 48, 49, 64, 65, 84, 96, 98, 99, 104, 106, 112, 113, 130, 144, 145, 160, 162, 164, 177, 179, 181, 182, 183, 184, 192, 193, 208, 209, 224, 256, 257, 258, 259, 260, 272, 274, 288, 336]: List Int).map (Value.int .i64)).toArray 3)).alloc (.cells (([0, 3, 5, 7, 16, 17, 18, 19, 32, 33, 48, 49, 64, 65, 84, 96, 98, 99, 104, 106, 112, 113, 130, 144, 145, 160, 162, 164, 177, 179, 181, 182, 183, 184, 192, 193, 208, 209, 224, 256, 257, 258, 259, 260, 272, 274, 288, 336]: List Int).map (Value.int .i64)).toArray 3)) := ((Below.refl _ _).alloc (by omega) _).alloc (by simp; omega) _
  simp only [List.map_cons, List.map_nil] at hb
  have hsz : B + 2 ≤ ((w.alloc (.cells (([0, 3, 5, 7, 16, 17, 18, 19, 32, 33, 48, 49, 64, 65, 84, 96, 98, 99, 104, 106, 112, 113, 130, 144, 145, 160, 162, 164, 177, 179, 181, 182, 183, 184, 192, 193, 208, 209, 224, 256, 257, 258, 259, 260, 272, 274, 288, 336]: List Int).map (Value.int .i64)).toArray 3)).alloc (.cells (([0, 3, 5, 7, 16, 17, 18, 19, 32, 33, 48, 49, 64, 65, 84, 96, 98, 99, 104, 106, 112, 113, 130, 144, 145, 160, 162, 164, 177, 179, 181, 182, 183, 184, 192, 193, 208, 209, 224, 256, 257, 258, 259, 260, 272, 274, 288, 336]: List Int).map (Value.int .i64)).toArray 3)).heap.size := by simp; omega
  simp only [List.map_cons, List.map_nil] at hsz
  revert h1 hb hsz
  generalize ((w.alloc _).alloc _) = W
  intro h1 hb hsz
  go_loopw [3] (fun i wr => ∃ (k n : Nat), k ≤ 48 ∧ i = .int .i64 k ∧ wr = W.drewN n) (fun i _ => 48 - (intOf i).toNat)
  case atStart => exact ⟨0, 0, by omega, rfl, rfl⟩
  case round =>
    obtain ⟨k, n, hk, rfl, rfl⟩ := hrel
    by_cases hlt : k < 48
    · obtain ⟨v, hv1, hv2⟩ := h1 k hlt
      have hki : (k : Int) < 48 := by omega
      go_wp2
      go_quiet (fail)
      go_wp2
      go_roundw
      case rel => exact ⟨k + 1, _, by omega, by go_num, rfl⟩
      case measure => simp [intOf]; omega
    · obtain rfl : k = 48 := by omega
      clear h1
      have hb2 : Below B w (W.drewN n) := below_drewN hb n
      have hB2 : B + 2 ≤ (W.drewN n).heap.size := hsz
      clear hsz hb
      revert hb2 hB2
      generalize W.drewN n = V
      intro hb2 hB2
      have h2 := Twin.mk V _ 191 all191 rfl rfl
      go_wp2_with (first
        | (show wpList _ _ _ (Oper.mk (some 76) (Op.buildSlice 24 191 _) _ _ _ _ :: _) _ _; refine wpList_run rfl (.slice (some ⟨V.heap.size, 0, none⟩) 191 191) (V.alloc row191) (by kernel_rfl) ?_)
        | (show wpList _ _ _ (Oper.mk (some 77) (Op.buildSlice 24 191 _) _ _ _ _ :: _) _ _; refine wpList_run rfl (.slice (some ⟨(V.alloc row191).heap.size, 0, none⟩) 191 191) ((V.alloc row191).alloc row191) (by kernel_rfl) ?_))
      have hb3 : Below B w ((V.alloc row191).alloc row191) := (hb2.alloc (by omega) _).alloc (by simp; omega) _
      revert h2 hb3
      simp only [row191]
      generalize ((V.alloc _).alloc _) = U
      intro h2 hb3
      generalize V.heap.size = C at h2 ⊢
      go_loopw [6] (fun i wr => ∃ (k n : Nat), k ≤ 191 ∧ i = .int .i64 k ∧ wr = U.drewN n) (fun i _ => 191 - (intOf i).toNat)
      case atStart => exact ⟨0, 0, by omega, rfl, rfl⟩
      case round =>
        obtain ⟨k, n, hk, rfl, rfl⟩ := hrel
        by_cases hlt : k < 191
        · obtain ⟨v, hv1, hv2⟩ := h2 k hlt
          have hki : (k : Int) < 191 := by omega
          go_wp2
          go_quiet (fail)
          go_wp2
          go_roundw
          case rel => exact ⟨k + 1, _, by omega, by go_num, rfl⟩
          case measure => simp [intOf]; omega
        · obtain rfl : k = 191 := by omega
          clear h2
          have hb4 : Below B w (U.drewN n) := below_drewN hb3 n
          go_wp2
          go_ret
          exact ⟨rfl, hB ▸ hb4⟩
open Go.ChangeShapes Go.WideShapes Go.ChangeAt
set_option linter.unusedVariables false
theorem own : ownKnob Try.prog.godebug = none := by kernel_rfl

/-! ### THE ROW's STEP: WRITTEN OUT: LEAVE IT -/
set_option maxRecDepth 100000 in
theorem lifted (os : Os) (started : os.Started) (H : Type) (enc : TypeId × Value → H) :
    ReturnsInHanded {} Try.checked os 3 .any (Rows.namesSpec.pre6 enc Try.prog Try.f3 Rows.namesRow.domain false) (Rows.namesSpec.post enc Try.prog Try.f3 false true false false) := by
  refine returnsInHanded_of_change (C := Try.checked) own started (by kernel_rfl) Try.func3
    (ChangeSpec.witness6 (enc := enc) (C := Try.checked) false ⟨#[], #[], []⟩ 8 (by kernel_rfl) (by kernel_rfl) (by kernel_rfl) (by kernel_rfl)) ?_
  intro W base args ds gs before hval0 hW hcnd _
  have hval : ∀ (j : Nat) t v, Try.f3.params[j]? = some t → args[j]? = some v → Value.okWide Try.prog W .any base t v := hval0
  have hW' := hW
  obtain ⟨p, q, hA0, hV, rfl, hfz, hnd⟩ := hW
  have hA : DataW.TrodAll enc Try.prog W 0 (fun _ => true) true Try.f3.params.toList args.toList ds p := hA0
  rw [Try.params3] at hA hval
  obtain ⟨rfl, rfl, rfl⟩ := trodAll_none hA
  obtain ⟨rfl, rfl⟩ := trodVars_none hV
  clear hA0 hval0
  simp only [List.append_nil] at hW'
  refine (names_walk W).mono fun e W' ⟨he, bel⟩ => ?_
  subst he
  exact ⟨_, rfl, _, _, _, [], _, [], hW', trodAll_mk1 (shut_bool Try.underlying4 _), trodAll_mk0, rfl, bel.frame _, fun h => by cases h⟩

theorem over : Rows.namesRow.holds Try.pinned (OpenSpec.ofChange Rows.namesSpec) :=
  OpenClaim.holds_of_wide 3 Try.f3 rfl rfl rfl rfl rfl rfl rfl ⟨rfl, rfl, rfl, rfl, rfl⟩ rfl rfl rfl rfl rfl (by kernel_rfl) Try.func3 (by kernel_rfl)
    (of_decide_eq_true (by kernel_rfl)) (by unfold Func.isWrapper; first | (rw [if_pos (by decide +kernel)]; kernel_rfl) | (rw [if_neg (by decide +kernel)]; exact ⟨rfl, rfl⟩))
    (fun os started H enc _ => lifted os started H enc)

/-- ████ THE STATEMENT ████ -/
theorem proved : Rows.NamesSaid :=
  over
#print axioms proved
end Go.Proofs.Ythldndbhfihakaa
