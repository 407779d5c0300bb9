/-
  The reference's sessions: CloseAll; the laws' lists.
-/
import Derived.Test.YtnpncbpbeikcaaaSesR5
import Derived.Test.YtnpncbpbeikcaaaOpenE
namespace Go.Proofs.Ytnpncbpbeikcaaa
open Go.RowKit Go.Maps

theorem cell_in {W : World} {a : Addr} {v : Int} (h : W.cell? a = some (.int .i64 v)) : a.block < W.heap.size := (addr_of_cellE h ⟨_, _, .inl rfl⟩).2
def isOf (conn slot : Int) (x : PS) : Bool := decide (x.c = conn ∧ (slot = -1 ∨ x.s = slot))
def RP.closeList (R : RP) (conn : Int) : List Int → RP
  | [] => R
  | h :: t => RP.closeList (R.closeW conn h).2 conn t
theorem closeList_snoc (conn : Int) (h : Int) : ∀ (t : List Int) (R : RP), R.closeList conn (t ++ [h]) = ((R.closeList conn t).closeW conn h).2
  | [], R => rfl
  | a :: t, R => closeList_snoc conn h t _
def RP.closeAllW (R : RP) (conn slot : Int) : List Int × RP := ((R.l.filter (isOf conn slot)).map PS.h, R.closeList conn ((R.l.filter (isOf conn slot)).map PS.h))
def RGone (B r : Nat) (S : List Nat) (w : World) (gone : List Int) (R' : RP) (e : Ending) (w' : World) : Prop := ∃ A m c S', e = .returned (.slice A m c) ∧ OwnE Try.eI w' w.heap.size (.slice A m c) gone ∧ Rb w' B r S' R' ∧ Turn S w w' ∧ InOr S S' w.heap.size
theorem Rb.notI {W : World} {B r base : Nat} {S : List Nat} {R : RP} {v : Value} {l : List Int} (h : Rb W B r S R) (ho : OwnE Try.eI W base v l) : ∀ g, v.ownBlock = some g → g ∉ S := by
  obtain ⟨A, m, c, A2, m2, c2, hR, rfl⟩ := h
  intro g hg hm
  unfold rblocks at hm
  rcases List.mem_cons.1 hm with e | e
  · subst e; exact ho.ne hR.blk (by decide) hg
  · rcases List.mem_append.1 e with e | e
    · obtain ⟨cs, hcs⟩ := hR.row.blk (g := g) (by simpa using e)
      exact ho.ne hcs (by decide) hg
    · obtain ⟨cs, hcs⟩ := hR.who.blk (g := g) (by simpa using e)
      exact ho.ne hcs (by decide) hg
theorem int_at {W : World} {A : Option Addr} {m : Nat} {l : List Int} (h : RdC Try.eI W A m l) {j : Nat} {x : Int} (hj : l[j]? = some x) : ∃ g off, A = some ⟨g, off, none⟩ ∧ W.cell? ⟨g, off + j, none⟩ = some (.int .i64 x) := by
  obtain ⟨g, off, hA, hg, hc⟩ := h.at_ hj
  have c0 := hc 0 (by decide)
  rw [show off + (j * Try.eI.sz + 0) = off + j by show off + (j * 1 + 0) = off + j; omega] at c0
  exact ⟨g, off, hA, c0⟩
set_option maxRecDepth 100000 in
set_option maxHeartbeats 4000000 in
theorem rcloseAll_any (B r : Nat) (S : List Nat) (R : RP) (conn slot : Int) (w : World) (h : Rb w B r S R) :
    Calls Try.prog 13 #[.pointer (some ⟨r, 0, none⟩), .int .i64 conn, .int .i64 slot] w (RGone B r S w (R.closeAllW conn slot).1 (R.closeAllW conn slot).2) := by
  have h0 := h
  obtain ⟨A, m, c, A2, m2, c2, hR, hS⟩ := h
  obtain ⟨q0, q1, q2⟩ := hR.cells
  have hm : m ≤ 1000 := by rw [hR.row.len]; exact hR.s1
  have hml := hR.row.rd.1
  have H := Lib.hid (And.intro hR (And.intro hS (And.intro hml h0)))
  clear hR hS hml h0
  go_enter Try.func13, Try.ntmps13
  go_wp2_with fail
  go_loopw [7, 8] (fun v kk wr => ∃ k : Nat, k ≤ m ∧ kk = .int .i64 (k : Int) ∧ ∃ A3 n3 c3, v = .slice A3 n3 c3 ∧ OwnE Try.eI wr w.heap.size (.slice A3 n3 c3) (((R.l.take k).filter (isOf conn slot)).map PS.h) ∧ Below w.heap.size w wr) (fun _ kk _ => m - (intOf kk).toNat)
  case atStart => exact ⟨0, by omega, rfl, none, 0, 0, rfl, OwnE.nil _ _, Below.refl _ _⟩
  case round =>
    obtain ⟨k, hk, rfl, A3, n3, c3, rfl, hO, hB⟩ := hrel
    obtain ⟨q0, q1, q2⟩ := (H.out.1.below hB).cells
    by_cases hlt : k < m
    · have hlti : (k : Int) < m := by omega
      have hltd : decide ((k : Int) < (m : Int)) = true := decide_eq_true hlti
      have hk0 : ¬ ((k : Int) < 0) := by omega
      obtain ⟨x, hx⟩ : ∃ x, R.l[k]? = some x := ⟨_, List.getElem?_eq_getElem (by rw [H.out.2.2.1]; exact hlt)⟩
      obtain ⟨g, off, hAe, z0, z1, z2, z3⟩ := rsess_at (H.out.1.row.rd.below hB) hx
      rw [hAe] at q0
      have HQ := Lib.hid (And.intro hO (And.intro hB hx))
      clear hO hB hx hAe
      by_cases h0 : x.c = conn
      · have d0 : decide (x.c = conn) = true := decide_eq_true h0
        by_cases h1 : slot = -1
        · subst h1
          have hq : isOf conn (-1) x = true := by simp [isOf, h0]
          have hal : Below wr.heap.size wr (wr.alloc (.cells #[.int .i64 x.h] 3)) := (Below.refl _ _).alloc (Nat.le_refl _) _
          have hsrc : RdC Try.eI (wr.alloc (.cells #[.int .i64 x.h] 3)) (some ⟨wr.heap.size, 0, none⟩) 1 [x.h] := Blk.rdC Try.eI (Blk.new wr 3 #[.int .i64 x.h]) rfl
          have HAl := Lib.hid (And.intro hal (And.intro hsrc hq))
          clear hal hsrc hq
          go_wp2_with (at_builtin; go_must (refine wp_appE Try.eI (.tmp 45) (.tmp 54) w.heap.size (.slice A3 n3 c3) _ (HQ.out.1.below HAl.out.1) (by have := HQ.out.2.1.size; have := HAl.out.1.size; omega) (some ⟨wr.heap.size, 0, none⟩) 1 1 [x.h] HAl.out.2.1 (fun h => by cases h) (by rw [List.length_map]; have := filter_len R.l (isOf conn (-1)) k; simp; omega) rfl rfl rfl rfl ?_); intro A7 n7 c7 w7 hG; have H7 := Lib.hid hG; clear hG)
          go_roundw
          case measure => simp [intOf]; omega
          exact ⟨k + 1, by omega, by simp, A7, n7, c7, rfl, by rw [filter_take_t _ _ _ _ HQ.out.2.2 HAl.out.2.2, List.map_append]; exact H7.out.own, (HQ.out.2.1.trans (HAl.out.1.mono HQ.out.2.1.size)).trans H7.out.below⟩
        · have d1 : (slot == -1) = false := by simp [h1]
          have d1' : decide (slot = -1) = false := decide_eq_false h1
          by_cases h2 : x.s = slot
          · have d2 : decide (x.s = slot) = true := decide_eq_true h2
            have hq : isOf conn slot x = true := by simp [isOf, h0, h2]
            have hal : Below wr.heap.size wr (wr.alloc (.cells #[.int .i64 x.h] 3)) := (Below.refl _ _).alloc (Nat.le_refl _) _
            have hsrc : RdC Try.eI (wr.alloc (.cells #[.int .i64 x.h] 3)) (some ⟨wr.heap.size, 0, none⟩) 1 [x.h] := Blk.rdC Try.eI (Blk.new wr 3 #[.int .i64 x.h]) rfl
            have HAl := Lib.hid (And.intro hal (And.intro hsrc hq))
            clear hal hsrc hq
            go_wp2_with (at_builtin; go_must (refine wp_appE Try.eI (.tmp 45) (.tmp 54) w.heap.size (.slice A3 n3 c3) _ (HQ.out.1.below HAl.out.1) (by have := HQ.out.2.1.size; have := HAl.out.1.size; omega) (some ⟨wr.heap.size, 0, none⟩) 1 1 [x.h] HAl.out.2.1 (fun h => by cases h) (by rw [List.length_map]; have := filter_len R.l (isOf conn slot) k; simp; omega) rfl rfl rfl rfl ?_); intro A7 n7 c7 w7 hG; have H7 := Lib.hid hG; clear hG)
            go_roundw
            case measure => simp [intOf]; omega
            exact ⟨k + 1, by omega, by simp, A7, n7, c7, rfl, by rw [filter_take_t _ _ _ _ HQ.out.2.2 HAl.out.2.2, List.map_append]; exact H7.out.own, (HQ.out.2.1.trans (HAl.out.1.mono HQ.out.2.1.size)).trans H7.out.below⟩
          · have d2 : decide (x.s = slot) = false := decide_eq_false h2
            have hq : isOf conn slot x = false := by simp [isOf, h1, h2]
            have hst := filter_take_f _ _ _ _ HQ.out.2.2 hq
            have HS := Lib.hid hst
            clear hst hq
            go_wp2_with fail
            go_roundw
            case measure => simp [intOf]; omega
            exact ⟨k + 1, by omega, by simp, A3, n3, c3, rfl, by rw [HS.out]; exact HQ.out.1, HQ.out.2.1⟩
      · have d0 : decide (x.c = conn) = false := decide_eq_false h0
        have hq : isOf conn slot x = false := by simp [isOf, h0]
        have hst := filter_take_f _ _ _ _ HQ.out.2.2 hq
        have HS := Lib.hid hst
        clear hst hq
        go_wp2_with fail
        go_roundw
        case measure => simp [intOf]; omega
        exact ⟨k + 1, by omega, by simp, A3, n3, c3, rfl, by rw [HS.out]; exact HQ.out.1, HQ.out.2.1⟩
    · obtain rfl : k = m := by omega
      have hlti : ¬ ((k : Int) < k) := by omega
      rw [show R.l.take k = R.l from List.take_of_length_le (by rw [H.out.2.2.1]; exact Nat.le_refl _)] at hO
      obtain ⟨gn, hgn⟩ : ∃ gn, (R.l.filter (isOf conn slot)).map PS.h = gn := ⟨_, rfl⟩
      rw [hgn] at hO
      have hn3 := hO.len
      have hn1000 : n3 ≤ 1000 := by rw [hn3, ← hgn, List.length_map]; exact Nat.le_trans (List.length_filter_le _ _) H.out.1.s1
      have HO := Lib.hid (And.intro hO (And.intro hB (And.intro hgn hn3)))
      clear hO hB hgn hn3
      go_wp2_with fail
      clear q0 q1 q2
      go_loopw [9] (fun kk wl => ∃ j : Nat, j ≤ n3 ∧ kk = .int .i64 (j : Int) ∧ ∃ S', OwnE Try.eI wl w.heap.size (.slice A3 n3 c3) gn ∧ Rb wl B r S' (R.closeList conn (gn.take j)) ∧ Turn S w wl ∧ InOr S S' w.heap.size) (fun kk _ => n3 - (intOf kk).toNat)
      case atStart => exact ⟨0, by omega, rfl, S, HO.out.1, H.out.2.2.2.below HO.out.2.1, Turn.of_below _ HO.out.2.1, fun _ hx => .inl hx⟩
      case round =>
        obtain ⟨j, hj, rfl, S', hO, hR, hT, hin⟩ := hrel
        by_cases hlt : j < n3
        · have hltj : (j : Int) < n3 := by omega
          have hltd : decide ((j : Int) < (n3 : Int)) = true := decide_eq_true hltj
          have hj0 : ¬ ((j : Int) < 0) := by omega
          obtain ⟨x, hx⟩ : ∃ x, gn[j]? = some x := ⟨_, List.getElem?_eq_getElem (by have := HO.out.2.2.2; omega)⟩
          obtain ⟨g, off, hAe, z0⟩ := int_at hO.rd hx
          have hnot := hR.notI hO
          have hcl := rclose_any B r S' _ conn x wr hR
          have hnx : R.closeList conn (gn.take (j + 1)) = ((R.closeList conn (gn.take j)).closeW conn x).2 := by rw [List.take_add_one, hx]; exact closeList_snoc conn x _ R
          rw [← hnx] at hcl
          have HQ := Lib.hid (And.intro hO (And.intro hT (And.intro hin (And.intro hnot hcl))))
          subst hAe
          clear hO hR hT hin hx hnot hcl hnx
          go_wp2_with fail
          refine HQ.out.2.2.2.2.mono ?_
          rintro e w2 hd
          obtain ⟨S2, rfl, hR2, hT2, hin2⟩ := hd.into
          have H2 := Lib.hid (And.intro hR2 (And.intro hT2 hin2))
          clear hd hR2 hT2 hin2
          go_wp2_with fail
          go_roundw
          case measure => simp [intOf]; omega
          refine ⟨j + 1, by omega, by simp, S2, HQ.out.1.turn H2.out.2.1 HQ.out.2.2.2.1, H2.out.1, HQ.out.2.1.trans H2.out.2.1 HQ.out.2.2.1, fun y hy => ?_⟩
          rcases H2.out.2.2 y hy with e | e
          · exact HQ.out.2.2.1 y e
          · exact .inr (Nat.le_trans HQ.out.2.1.size e)
        · obtain rfl : j = n3 := by omega
          have hltj : ¬ ((j : Int) < j) := by omega
          rw [show gn.take j = gn from List.take_of_length_le (by have := HO.out.2.2.2; omega)] at hR
          have HQ := Lib.hid (And.intro hO (And.intro hR (And.intro hT hin)))
          clear hO hR hT hin
          go_wp2_with fail
          go_ret
          refine ⟨A3, j, c3, S', rfl, ?_, ?_, HQ.out.2.2.1, HQ.out.2.2.2⟩
          · show OwnE Try.eI wr w.heap.size _ ((R.l.filter (isOf conn slot)).map PS.h)
            rw [HO.out.2.2.1]; exact HQ.out.1
          · show Rb wr B r S' (R.closeList conn ((R.l.filter (isOf conn slot)).map PS.h))
            rw [HO.out.2.2.1]; exact HQ.out.2.1
set_option maxHeartbeats 2000000 in
theorem lists_any (A : Option Addr) (m c : Nat) (A' : Option Addr) (m' c' : Nat) (l : List Int) (w : World) (h : RdC Try.eI w A m l) (h' : RdC Try.eI w A' m' l) (hl : l.length ≤ 100000) :
    Calls Try.prog 14 #[.slice A m c, .slice A' m' c'] w fun e w' => e = .returned (.bool true) ∧ Below w.heap.size w w' := by
  obtain rfl : m = m' := h.1.symm.trans h'.1
  have hml := h.1
  have hm5 : m ≤ 100000 := by omega
  have H := Lib.hid (And.intro h (And.intro h' hml))
  clear h h' hml hl
  go_enter Try.func14, Try.ntmps14
  go_wp2_with fail
  go_loopw [5] (fun kk wr => ∃ k : Nat, k ≤ m ∧ kk = .int .i64 (k : Int) ∧ Below w.heap.size w wr) (fun kk _ => m - (intOf kk).toNat)
  case atStart => exact ⟨0, by omega, rfl, Below.refl _ _⟩
  case round =>
    obtain ⟨k, hk, rfl, hB⟩ := hrel
    by_cases hlt : k < m
    · have hlti : (k : Int) < m := by omega
      have hltd : decide ((k : Int) < (m : Int)) = true := decide_eq_true hlti
      have hk0 : ¬ ((k : Int) < 0) := by omega
      obtain ⟨x, hx⟩ : ∃ x, l[k]? = some x := ⟨_, List.getElem?_eq_getElem (by rw [H.out.2.2]; exact hlt)⟩
      obtain ⟨g, off, rfl, z0⟩ := int_at (H.out.1.below hB) hx
      obtain ⟨g', off', rfl, z0'⟩ := int_at (H.out.2.1.below hB) hx
      have HZ := Lib.hid (And.intro z0 (And.intro z0' hB))
      clear hx z0 z0' hB
      go_wp2_with fail
      refine region_old (by kernel_rfl) (fun wd hHeld hSz => ?_)
      have HSz := Lib.hid hSz
      clear hSz
      refine takeL (i := 0) (v := ?_) rfl (by kernel_rfl) (by kernel_rfl) (by kernel_rfl) (fun _ _ _ h => h) (Or.inl ⟨by rfl, ?_⟩) hHeld ?_
      rotate_left
      focus (intro wq hSw; clear hSw; go_simp; try with_reducible rfl)
      try simp only [Act.put, List.setIfInBounds_toArray, List.set_cons_zero, List.set_cons_succ]
      refine takeL (i := 1) (v := ?_) rfl (by kernel_rfl) (by kernel_rfl) (by kernel_rfl) (fun _ _ _ h => h) (Or.inl ⟨by rfl, ?_⟩) hHeld ?_
      rotate_left
      focus (intro wq hSw; clear hSw; go_simp; try with_reducible rfl)
      try simp only [Act.put, List.setIfInBounds_toArray, List.set_cons_zero, List.set_cons_succ]
      refine takeL (i := 2) (v := ?_) rfl (by kernel_rfl) (by kernel_rfl) (by kernel_rfl) (fun _ _ _ h => h) (Or.inl ⟨by rfl, ?_⟩) hHeld ?_
      rotate_left
      focus (intro wq hSw; clear hSw; go_simp; try with_reducible rfl)
      try simp only [Act.put, List.setIfInBounds_toArray, List.set_cons_zero, List.set_cons_succ]
      refine takeL (i := 3) (v := ?_) rfl (by kernel_rfl) (by kernel_rfl) (by kernel_rfl) (fun _ _ _ h => h) (Or.inl ⟨by rfl, ?_⟩) hHeld ?_
      rotate_left
      focus (intro wq hSw; have z0 := (hSw.cell (p := ⟨g, off + k, none⟩) (cell_in HZ.out.1)).trans HZ.out.1; clear hSw; go_simp; try with_reducible rfl)
      try simp only [Act.put, List.setIfInBounds_toArray, List.set_cons_zero, List.set_cons_succ]
      refine takeL (i := 4) (v := ?_) rfl (by kernel_rfl) (by kernel_rfl) (by kernel_rfl) (fun _ _ _ h => h) (Or.inl ⟨by rfl, ?_⟩) hHeld ?_
      rotate_left
      focus (intro wq hSw; clear hSw; go_simp; try with_reducible rfl)
      try simp only [Act.put, List.setIfInBounds_toArray, List.set_cons_zero, List.set_cons_succ]
      refine takeL (i := 5) (v := ?_) rfl (by kernel_rfl) (by kernel_rfl) (by kernel_rfl) (fun _ _ _ h => h) (Or.inl ⟨by rfl, ?_⟩) hHeld ?_
      rotate_left
      focus (intro wq hSw; clear hSw; go_simp; try with_reducible rfl)
      try simp only [Act.put, List.setIfInBounds_toArray, List.set_cons_zero, List.set_cons_succ]
      refine takeL (i := 6) (v := ?_) rfl (by kernel_rfl) (by kernel_rfl) (by kernel_rfl) (fun _ _ _ h => h) (Or.inl ⟨by rfl, ?_⟩) hHeld ?_
      rotate_left
      focus (intro wq hSw; clear hSw; go_simp; try with_reducible rfl)
      try simp only [Act.put, List.setIfInBounds_toArray, List.set_cons_zero, List.set_cons_succ]
      refine takeL (i := 7) (v := ?_) rfl (by kernel_rfl) (by kernel_rfl) (by kernel_rfl) (fun _ _ _ h => h) (Or.inl ⟨by rfl, ?_⟩) hHeld ?_
      rotate_left
      focus (intro wq hSw; have z0' := (hSw.cell (p := ⟨g', off' + k, none⟩) (cell_in HZ.out.2.1)).trans HZ.out.2.1; clear hSw; go_simp; try with_reducible rfl)
      try simp only [Act.put, List.setIfInBounds_toArray, List.set_cons_zero, List.set_cons_succ]
      refine takeL (i := 8) (v := ?_) rfl (by kernel_rfl) (by kernel_rfl) (by kernel_rfl) (fun _ _ _ h => h) (Or.inl ⟨by rfl, ?_⟩) hHeld ?_
      rotate_left
      focus (intro wq hSw; clear hSw; go_simp; try with_reducible rfl)
      try simp only [Act.put, List.setIfInBounds_toArray, List.set_cons_zero, List.set_cons_succ]
      refine wpAnyH_done (by kernel_rfl) ?_ _
      refine NoPanic.normal ?_
      have HH := Lib.hid hHeld
      clear hHeld
      go_wp2_with fail
      go_roundw
      case measure => simp [intOf]; omega
      exact ⟨k + 1, by omega, by simp, HZ.out.2.2.trans (Below.mono HH.out HZ.out.2.2.size)⟩
    · obtain rfl : k = m := by omega
      have hlti : ¬ ((k : Int) < k) := by omega
      have HZ := Lib.hid hB
      clear hB
      go_wp2_with fail
      go_ret
      exact ⟨rfl, HZ.out⟩
end Go.Proofs.Ytnpncbpbeikcaaa
