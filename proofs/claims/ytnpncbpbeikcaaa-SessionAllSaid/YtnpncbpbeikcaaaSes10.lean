/-
  The law SessionNone: no table has no sessions.
-/
import Derived.Test.YtnpncbpbeikcaaaSes9
namespace Go.Proofs.Ytnpncbpbeikcaaa
open Go.RowKit Go.Maps
attribute [local go_sem] Oper.semAt_some

set_option maxHeartbeats 1000000 in
theorem all_iter_nil (bt : Nat) :
    Iter Try.prog 40 #[.pointer (some ⟨bt, 0, none⟩), .pointer (some ⟨bt + 1, 0, none⟩), .pointer (some ⟨bt + 2, 0, none⟩)] (fun _ args _ => ∃ x, args = #[.int .i64 x]) (fun _ W => Blk W bt 24 #[.pointer none]) 0 [] := by
  intro l' J Jx W hJ hJx hY h0 hM
  refine callsIn_of_wp Try.func40 rfl trivial ?_ rfl
  simp only [Try.ntmps40, List.size_toArray, List.length_cons, List.length_nil, Nat.reduceAdd, Nat.reduceSub, Array.replicate_succ, Array.replicate_zero, List.push_toArray, List.append_toArray, List.nil_append, List.cons_append]
  have q0 := hM.cell 0
  simp only [List.getElem?_toArray, List.getElem?_cons_succ, List.getElem?_cons_zero] at q0
  have HJ := Lib.hid h0
  clear hM hY h0
  gi_wp2
  refine bodyPost_ret (results_none rfl _ _ _) rfl ?_
  exact ⟨⟨_, rfl⟩, .inl HJ.out⟩
set_option maxRecDepth 100000 in
set_option maxHeartbeats 4000000 in
theorem sessionNone_any (w : World) : Calls Try.prog 5 #[] w fun e w' => e = .returned (.bool true) ∧ Below w.heap.size w w' := by
  obtain ⟨Y, hY⟩ : ∃ Y, w.heap.size = Y := ⟨_, rfl⟩
  have HY := Lib.hid hY
  clear hY
  refine calls_of_marks Try.func5 rfl ?_
  simp only [Try.ntmps5, List.size_toArray, List.length_cons, List.length_nil, Nat.reduceAdd, Nat.reduceSub, Array.replicate_succ, Array.replicate_zero, List.push_toArray, List.append_toArray, List.nil_append, List.cons_append]
  go_wp2_with fail
  refine (openW_nil 1 1 true w).mono ?_
  rintro e w3 ⟨rfl, hb3⟩
  have H3 := Lib.hid hb3
  clear hb3
  go_wp2_with fail
  refine (all_any none 1 1 w3).mono ?_
  rintro e w4 ⟨rfl, hb4, k0, k1, k2, hs4⟩
  obtain ⟨Z, hZ⟩ : ∃ Z, w3.heap.size = Z := ⟨_, rfl⟩
  rw [hZ] at k0 k1 k2 hs4
  have hb4' : Below w.heap.size w w4 := H3.out.trans (hb4.mono H3.out.size)
  have hYZ : Y ≤ Z := by have := H3.out.size; have := HY.out; omega
  have H4 := Lib.hid (And.intro k0 (And.intro hb4' (And.intro hs4 hYZ)))
  rw [hZ]
  clear hb4 k0 k1 k2 hs4 hb4' hZ hYZ
  have hnn := notNilA #[.pointer (some ⟨Z, 0, none⟩), .pointer (some ⟨Z + 1, 0, none⟩), .pointer (some ⟨Z + 2, 0, none⟩)] w4
  go_wp2_with fail
  obtain ⟨w5, hw5⟩ : ∃ w5, w4.alloc (.cells #[.int .i64 0] 3) = w5 := ⟨_, rfl⟩
  have hb5 : Below w4.heap.size w4 w5 := by rw [← hw5]; exact (Below.refl _ _).alloc (Nat.le_refl _) _
  have b5 : Blk w5 (Z + 3) 3 #[.int .i64 0] := by rw [← hw5, ← H4.out.2.2.1]; exact Blk.new _ _ _
  have hs5 : w5.heap.size = Z + 4 := by rw [← hw5]; simp [H4.out.2.2.1]
  have hs4 := H4.out.2.2.1
  rw [hw5]
  try rw [hs4]
  have H5 := Lib.hid (And.intro hb5 (And.intro b5 (And.intro hs5 (H4.out.1.below hb5))))
  clear hw5 hb5 b5 hs4
  refine wp_range0 (gf := 40) (lb := #[.pointer (some ⟨Z, 0, none⟩), .pointer (some ⟨Z + 1, 0, none⟩), .pointer (some ⟨Z + 2, 0, none⟩)]) (T := []) rfl (fun _ _ => by kernel_rfl)
    (all_iter_nil Z) (fun k args W h => by obtain ⟨x, rfl⟩ := h; rfl) (by simp)
    (fun _ W => Turn [] w5 W)
    (fun _ _ _ => False)
    ?hI ?hIx ?hM ?hA (Turn.refl _ _) ?hM0 ?hM1 ?hbody ?hdone ?hstop
  case hI =>
    rintro k W1 W2 S h2 ht hS
    have hS' : ∀ t ∈ S, w5.heap.size ≤ t := by
      intro t h
      rcases hS t h with h | ⟨h, _⟩
      · cases h
      · omega
    exact h2.trans ht (fun x hx => .inr (hS' x hx))
  case hIx => rintro c k W1 W2 S h; exact h.elim
  case hM =>
    rintro k W1 W2 hM ⟨r, hr⟩ ht
    exact hM.turn ht (by simp; omega)
  case hA =>
    rintro k args W1 W2 h ⟨r, hr⟩ ht
    exact h
  case hM0 => exact H5.out.2.2.2
  case hM1 =>
    intro W ht
    exact H5.out.2.2.2.turn ht (by simp)
  case hbody =>
    rintro l' k args W hkN
    omega
  case hstop => rintro c k W _ hkN; omega
  case hdone =>
    rintro W hlt h2 hdf
    have hBW : Below w.heap.size w W := (H4.out.2.1.trans (H5.out.1.mono H4.out.2.1.size)).trans (h2.below.mono (by have := H4.out.2.1.size; have := H5.out.1.size; omega))
    have b5 := H5.out.2.1.turn h2 (by simp)
    rw [hs5] at hdf
    have HW := Lib.hid (And.intro hBW (And.intro b5 hdf))
    clear hBW b5 h2 hdf
    go_wp2_with fail
    refine (slot_nil 1 1 W).mono ?_
    rintro e w' ⟨rfl, hw'⟩
    subst hw'
    go_wp2_with fail
    refine (begun_any W).mono ?_
    rintro e v1 ⟨rfl, hb⟩
    have V1 := Lib.hid hb
    clear hb
    go_wp2_with fail
    refine (closeW_nil 1 1 v1).mono ?_
    rintro e v2 ⟨rfl, hb⟩
    have V2 := Lib.hid (V1.out.trans (hb.mono V1.out.size))
    clear hb
    go_wp2_with fail
    refine (closeAll_nil 1 1 v2).mono ?_
    rintro e v3 ⟨rfl, hb⟩
    have V3 := Lib.hid (V2.out.trans (hb.mono V2.out.size))
    clear hb
    go_wp2_with fail
    refine (drop_nil 1 v3).mono ?_
    rintro e v4 ⟨rfl, hb⟩
    have V4 := Lib.hid (V3.out.trans (hb.mono V3.out.size))
    clear hb
    go_wp2_with fail
    refine (state_nil 1 1 v4).mono ?_
    rintro e w' ⟨rfl, hw'⟩
    subst hw'
    go_wp2_with fail
    refine (login_nil 1 1 1 v4).mono ?_
    rintro e v5 ⟨rfl, hb⟩
    have V5 := Lib.hid (V4.out.trans (hb.mono V4.out.size))
    clear hb
    go_wp2_with fail
    refine (logout_nil 1 1 v5).mono ?_
    rintro e v6 ⟨rfl, hb⟩
    have V6 := Lib.hid (V5.out.trans (hb.mono V5.out.size))
    clear hb
    go_wp2_with fail
    refine (used_nil 1 v6).mono ?_
    rintro e v7 ⟨rfl, hb⟩
    have V7 := Lib.hid (V6.out.trans (hb.mono V6.out.size))
    clear hb
    have k0 := (HW.out.2.1.below V7.out).cell 0
    simp only [List.getElem?_toArray, List.getElem?_cons_zero] at k0
    go_wp2_with fail
    have hd9 : v7.heap[Z + 4]? = some (.deferred (some [])) := (V7.out.block _ (by omega)).trans HW.out.2.2
    have hT9 : Turn [Z + 4] v7 (v7.putObj (Z + 4) (.deferred none)) := (Turn.refl _ v7).putObj (.inl (by simp)) _
    refine ret_mark (v := .bool true) rfl hd9 (fun W' => by simp [results, Try.results5, go_sem]) ?_
    exact ⟨rfl, below_turn (HW.out.1.trans (V7.out.mono HW.out.1.size)) hT9 (by simp; have := H4.out.2.2.2; have := HY.out; omega) (by have := V7.out.size; have := HW.out.1.size; omega)⟩
end Go.Proofs.Ytnpncbpbeikcaaa
