/-
  Pad: the second kind of padding is read; no random bytes at all.
-/
import Derived.Test.YtddemlajfbagdaaDoorPe3
import Derived.Lib.BytesEntry
namespace Go.Proofs.YtddemlajfbagdaaDoor
set_option maxRecDepth 100000
open Go.RowKit
attribute [local go_sem] Oper.semAt_some

theorem isNil8 (w : World) : (binOp .eql 43 .nilFunc .nilFunc).run Tryd.prog w = .ok (.bool true) w := by kernel_rfl
set_option maxHeartbeats 2000000 in
theorem enc1_nil (n : Int) (v : Value) (w : World) :
    Calls Tryd.prog 26 #[.int .i64 n, v, .nilFunc] w fun e w' => e = .returned (.tuple #[.slice none 0 0, .int .i64 7]) ∧ w = w' := by
  have hnn := isNil8 w
  by_cases d1 : 65536 < n
  · have c1i : n > 65536 := d1
    have b1 : decide (n > 65536) = true := decide_eq_true d1
    go_enter Tryd.func26, Tryd.ntmps26
    go_wp2_with fail
    refine wp_scope_straight ?_
    go_wp2_with fail
    simp only [Exit.noGoto_ret]
    refine bodyPost_ret (results_tmp2 rfl _ _ _) rfl ?_
    exact ⟨rfl, rfl⟩
  · have c1i : ¬ n > 65536 := d1
    have b1 : decide (n > 65536) = false := decide_eq_false d1
    go_enter Tryd.func26, Tryd.ntmps26
    go_wp2_with fail
    refine wp_scope_straight ?_
    go_wp2_with fail
    simp only [Exit.noGoto_ret]
    refine bodyPost_ret (results_tmp2 rfl _ _ _) rfl ?_
    exact ⟨rfl, rfl⟩
theorem cutZ_cons (x : UInt8) (l : List UInt8) : cutZ (x :: l) = if x = 0 then some (0, l) else (cutZ l).map fun y => (y.1 + 1, y.2) := rfl
/-- The first zero of em behind two bytes: none up to i. -/
def NoZ (em : List UInt8) (i : Nat) : Prop := 2 ≤ i ∧ cutZ (em.drop 2) = (cutZ (em.drop i)).map fun y => (y.1 + (i - 2), y.2)
theorem NoZ.begin (em : List UInt8) : NoZ em 2 := ⟨Nat.le_refl _, by cases cutZ (em.drop 2) <;> simp⟩
theorem NoZ.next {em : List UInt8} {i : Nat} {x : UInt8} (h : NoZ em i) (hx : em[i]? = some x) (h0 : x ≠ 0) : NoZ em (i + 1) := by
  refine ⟨by have := h.1; omega, ?_⟩
  have hdr : em.drop i = x :: em.drop (i + 1) := by rw [List.drop_eq_getElem_cons (List.getElem?_eq_some_iff.1 hx).1, (List.getElem?_eq_some_iff.1 hx).2]
  rw [h.2, hdr, cutZ_cons, if_neg h0]
  have h1 := h.1
  cases cutZ (em.drop (i + 1)) with
  | none => rfl
  | some y => simp; omega
theorem NoZ.hit {em : List UInt8} {i : Nat} (h : NoZ em i) (hx : em[i]? = some 0) : cutZ (em.drop 2) = some (i - 2, em.drop (i + 1)) := by
  have hdr : em.drop i = 0 :: em.drop (i + 1) := by rw [List.drop_eq_getElem_cons (List.getElem?_eq_some_iff.1 hx).1, (List.getElem?_eq_some_iff.1 hx).2]
  rw [h.2, hdr, cutZ_cons, if_pos rfl]
  simp
theorem NoZ.over {em : List UInt8} {i : Nat} (h : NoZ em i) (hl : em.length ≤ i) : cutZ (em.drop 2) = none := by
  rw [h.2, List.drop_eq_nil_of_le hl]
  rfl
set_option maxHeartbeats 8000000 in
theorem rdec1_any (A : Option Addr) (m c : Nat) (em : List UInt8) (w : World) (h1 : Rd w A m c em) (hm : m ≤ 1000) :
    Calls Tryd.prog 25 #[.slice A m c] w (PRes w (dec1F em)) := by
  have hl1 := h1.1
  unfold dec1F
  rw [← hl1]
  by_cases d1 : m < 2
  · rw [if_pos (.inl d1)]
    have b1i : (m : Int) < 2 := by omega
    have b1 : decide ((m : Int) < 2) = true := decide_eq_true b1i
    clear h1 hl1
    go_enter Tryd.func25, Tryd.ntmps25
    go_wp2_with fail
    refine bodyPost_ret (results_tmp2 rfl _ _ _) rfl ?_
    exact ⟨none, 0, 0, rfl, Rd.nil _, Old.refl _⟩
  · have b1i : ¬ (m : Int) < 2 := by omega
    have b1 : decide ((m : Int) < 2) = false := decide_eq_false b1i
    obtain ⟨x0, hx0⟩ : ∃ x, em[0]? = some x := ⟨_, List.getElem?_eq_getElem (by omega)⟩
    obtain ⟨x1, hx1⟩ : ∃ x, em[1]? = some x := ⟨_, List.getElem?_eq_getElem (by omega)⟩
    have g0 : em.getD 0 0 = x0 := by rw [List.getD_eq_getElem?_getD, hx0]; rfl
    have g1 : em.getD 1 0 = x1 := by rw [List.getD_eq_getElem?_getD, hx1]; rfl
    rw [g0, g1]
    have h0m : 0 < m := by omega
    have h1m : 1 < m := by omega
    obtain ⟨be, oe, rfl, hat⟩ := h1.addr h0m
    have y0 := hat.2 0 x0 hx0
    have y1 := hat.2 1 x1 hx1
    rw [Nat.add_zero] at y0
    have h0c : 0 < c := by have := h1.2.1; omega
    have h1c : 1 < c := by have := h1.2.1; omega
    by_cases d2 : x0 = 0
    · have b2 : isN x0 0 = true := by rw [d2]; rfl
      by_cases d3 : x1 = 2
      · rw [if_neg (fun h => h.elim d1 (fun h => h.elim (fun h => h d2) (fun h => h d3)))]
        have b3 : isN x1 2 = true := by rw [d3]; rfl
        clear hat hx0 hx1 g0 g1 d2 d3
        obtain ⟨RS, hRS⟩ : ∃ R, (match cutZ (em.drop 2) with | none => ([], 64) | some (k, r) => if k < 8 then ([], 64) else (r, 0) : List UInt8 × Int) = R := ⟨_, rfl⟩
        show Calls _ _ _ _ (PRes w (match cutZ (em.drop 2) with | none => ([], 64) | some (k, r) => if k < 8 then ([], 64) else (r, 0) : List UInt8 × Int))
        rw [hRS]
        have hA1 : cutZ (em.drop 2) = none → RS = ([], 64) := fun h => by rw [← hRS, h]
        have hA2 : ∀ k r, cutZ (em.drop 2) = some (k, r) → k < 8 → RS = ([], 64) := fun k r h h2 => by rw [← hRS, h]; exact if_pos h2
        have hA3 : ∀ k r, cutZ (em.drop 2) = some (k, r) → ¬ k < 8 → RS = (r, 0) := fun k r h h2 => by rw [← hRS, h]; exact if_neg h2
        have HH := Lib.hid (And.intro h1 (And.intro hA1 (And.intro hA2 (And.intro hA3 (And.intro hl1 hm)))))
        clear h1 hA1 hA2 hA3 hl1 hRS hm

        go_enter Tryd.func25, Tryd.ntmps25
        go_wp2_with fail
        go_loopw [4] (fun iv wr => ∃ i : Nat, iv = .int .i64 (i : Int) ∧ i ≤ m ∧ NoZ em i ∧ wr = w) (fun iv _ => m - (intOf iv).toNat)
        case atStart => exact ⟨2, rfl, by omega, NoZ.begin em, rfl⟩
        case round =>
          obtain ⟨i, rfl, hi, hNZ, rfl⟩ := hrel
          have hmb := HH.out.2.2.2.2.2
          have hi2 := hNZ.1
          by_cases hlt : i < m
          · have hd : decide ((i : Int) < (m : Int)) = true := decide_eq_true (by omega)
            have hdi : (i : Int) < (m : Int) := by omega
            obtain ⟨x, hx⟩ : ∃ x, em[i]? = some x := ⟨_, List.getElem?_eq_getElem (by rw [← HH.out.2.2.2.2.1]; exact hlt)⟩
            obtain ⟨_, _, hge, hgat⟩ := HH.out.1.addr (by omega)
            cases hge
            have yx := hgat.2 i x hx
            have hic : (i : Int) < (c : Int) := by have := HH.out.1.2.1; omega
            obtain ⟨i1, hi1⟩ : ∃ i1, i + 1 = i1 := ⟨_, rfl⟩
            have hi1i : (i : Int) + 1 = (i1 : Int) := by omega
            have hi1w : IntKind.i64.wrap (i1 : Int) = (i1 : Int) := IntWalk.i64_in _ (by omega)
            by_cases e0 : x = 0
            · have b5 : isN x 0 = true := by rw [e0]; rfl
              rw [e0] at hx
              have hhit := hNZ.hit hx
              by_cases e1 : i < 10
              · have b6 : decide ((i : Int) < 10) = true := decide_eq_true (by omega)
                have b6i : (i : Int) < 10 := by omega
                have HG := Lib.hid (HH.out.2.2.1 _ _ hhit (by omega))
                clear hgat hx e0 e1 hi1 hlt hi hNZ hmb hi2 hhit
                go_wp2_with fail
                refine bodyPost_ret (results_tmp2 rfl _ _ _) rfl ?_
                rw [HG.out]
                exact ⟨none, 0, 0, rfl, Rd.nil _, Old.refl _⟩
              · have b6 : decide ((i : Int) < 10) = false := decide_eq_false (by omega)
                have b6i : ¬ (i : Int) < 10 := by omega
                obtain ⟨A9, n9, c9, hn9, hS10, hR9, _⟩ := HH.out.1.cut_ex2 (k := i1) (by omega)
                rw [hi1] at hhit
                have HG := Lib.hid (And.intro hR9 (And.intro (HH.out.2.2.2.1 _ _ hhit (by omega)) (show n9 ≤ 1000 by omega)))
                clear hgat hx e0 e1 hi1 hlt hi hNZ hmb hi2 hhit hR9 hn9
                go_wp2_with (at_builtin; refine wp_app2 (.const (.slice none 0 0)) (.tmp 36) wr.heap.size (.slice none 0 0) [] (Own.nil _ _) (Nat.le_refl _) A9 n9 c9 _ HG.out.1 (by have h1 := HG.out.1.1; have h2 := HG.out.2.2; simp only [List.length_nil]; omega) rfl rfl rfl rfl ?_; intro A5 n5 c5 w5 hn5 hG5; have H5 := Lib.hid (And.intro hG5.own (show Old wr w5 from hG5.below)); clear hG5)
                refine bodyPost_ret (results_tmp2 rfl _ _ _) rfl ?_
                rw [HG.out.2.1]
                refine ⟨_, _, _, rfl, ?_, H5.out.2⟩
                simpa using H5.out.1.rd
            · have b5 : isN x 0 = false := by unfold isN; simp only [beq_eq_false_iff_ne]; exact fun h => e0 (UInt8.toNat_inj.1 (by exact_mod_cast h))
              have hnx := hNZ.next hx e0
              rw [hi1] at hnx
              have HG := Lib.hid (And.intro hnx (And.intro (show i1 ≤ m by omega) hi1))
              clear hgat hx e0 hi1 hlt hi hNZ hmb hi2 hnx
              go_wp2_with fail
              go_roundw
              case rel => exact ⟨i1, rfl, HG.out.2.1, HG.out.1, by first | trivial | rfl⟩
              case measure => have h1 := HG.out.2.2; have h2 := HG.out.2.1; simp [intOf]; omega
          · obtain rfl : i = m := by omega
            have hd : decide ((i : Int) < (i : Int)) = false := decide_eq_false (by omega)
            have HG := Lib.hid (HH.out.2.1 (hNZ.over (by rw [← HH.out.2.2.2.2.1]; exact Nat.le_refl _)))
            clear hlt hi hNZ hmb hi2
            go_wp2_with fail
            refine bodyPost_ret (results_tmp2 rfl _ _ _) rfl ?_
            rw [HG.out]
            exact ⟨none, 0, 0, rfl, Rd.nil _, Old.refl _⟩
      · rw [if_pos (.inr (.inr d3))]
        have b3 : isN x1 2 = false := by unfold isN; simp only [beq_eq_false_iff_ne]; exact fun h => d3 (UInt8.toNat_inj.1 (by exact_mod_cast h))
        clear h1 hl1 hat hx0 hx1 g0 g1 d2 d3
        go_enter Tryd.func25, Tryd.ntmps25
        go_wp2_with fail
        refine bodyPost_ret (results_tmp2 rfl _ _ _) rfl ?_
        exact ⟨none, 0, 0, rfl, Rd.nil _, Old.refl _⟩
    · rw [if_pos (.inr (.inl d2))]
      have b2 : isN x0 0 = false := by unfold isN; simp only [beq_eq_false_iff_ne]; exact fun h => d2 (UInt8.toNat_inj.1 (by exact_mod_cast h))
      clear h1 hl1 hat hx0 hx1 g0 g1 d2
      go_enter Tryd.func25, Tryd.ntmps25
      go_wp2_with fail
      refine bodyPost_ret (results_tmp2 rfl _ _ _) rfl ?_
      exact ⟨none, 0, 0, rfl, Rd.nil _, Old.refl _⟩
theorem cutZ_split : ∀ (l : List UInt8) (k : Nat) (r : List UInt8), cutZ l = some (k, r) → k < l.length ∧ l.drop (k + 1) = r
  | [], k, r, h => by cases h
  | x :: l, k, r, h => by
    rw [cutZ_cons] at h
    split at h
    · cases h; exact ⟨by simp, rfl⟩
    · cases hc : cutZ l with
      | none => rw [hc] at h; cases h
      | some y =>
        rw [hc] at h
        obtain ⟨k', r'⟩ := y
        cases h
        have h5 := cutZ_split l k' _ hc
        exact ⟨by have := h5.1; simp; omega, by simpa using h5.2⟩
def idx0 (l : List UInt8) : Int := match cutZ l with | none => -1 | some y => (y.1 : Int)
theorem idx0_eq : ∀ l : List UInt8, Lib.indexByte l 0 = idx0 l
  | [] => rfl
  | x :: l => by
    unfold Lib.indexByte
    rw [idx0_eq l]
    unfold idx0
    rw [cutZ_cons]
    by_cases h : x = 0
    · rw [if_pos h, if_pos (by simpa using h)]
      rfl
    · rw [if_neg h, if_neg (by simpa using h)]
      cases cutZ l with
      | none => rfl
      | some y =>
        show (if ((y.1 : Int) == -1) = true then (-1 : Int) else (y.1 : Int) + 1) = ((y.1 + 1 : Nat) : Int)
        rw [if_neg (by simp)]
        rfl
theorem bytesOf_B (l : List UInt8) : Lib.bytesOf (l.map fun x => (x.toNat : Int)) = l := by
  unfold Lib.bytesOf
  rw [List.map_map]
  conv => rhs; rw [← List.map_id l]
  apply List.map_congr_left
  intro x _
  simp
set_option maxHeartbeats 2000000 in
theorem pidx_any (A : Option Addr) (m c : Nat) (l : List UInt8) (w : World) (h : Rd w A m c l) :
    Calls Tryd.prog 45 #[.slice A m c, .int .u8 0] w fun e w' => e = .returned (.int .i64 (idx0 l)) ∧ w = w' := by
  have hrun : (Extern.BytealgIndexByte.indexByte #[.slice A m c, .int .u8 0]).run Tryd.prog w = .ok (.int .i64 (idx0 l)) w := by
    obtain ⟨h1, h2, h3, ⟨rfl, h4⟩ | ⟨b, o, rfl, hat⟩⟩ := h
    · have h5 : l = [] := List.eq_nil_of_length_eq_zero (by omega)
      rw [Lib.run_indexByteNil, h5]
      rfl
    · rw [Lib.run_indexByteSlice w b o m c (l.map fun x => (x.toNat : Int)) (by rw [List.length_map]; exact h1.symm) (fun i hi => by
        have hx : l[i]? = some l[i] := List.getElem?_eq_getElem (by omega)
        rw [hat.2 i _ hx, List.getD_eq_getElem?_getD, List.getElem?_map, hx]
        rfl), bytesOf_B]
      exact congrArg (fun x => Result.ok (Value.int .i64 x) w) (idx0_eq l)
  go_enter Tryd.func45, Tryd.ntmps45
  go_wp2
  rw [run_callFunc_extern Tryd.func61 (by kernel_rfl) (by kernel_rfl) (by kernel_rfl) (e := Extern.BytealgIndexByte.indexByte) (by kernel_rfl), hrun]
  simp only [Result.andThen]
  rw [Oper.upon_value]
  go_wp2
  go_ret
  exact ⟨rfl, rfl⟩
set_option maxHeartbeats 8000000 in
theorem dec1_any (A : Option Addr) (m c : Nat) (em : List UInt8) (w : World) (h1 : Rd w A m c em) (hm : m ≤ 1000) :
    Calls Tryd.prog 24 #[.slice A m c] w (PRes w (dec1F em)) := by
  have hl1 := h1.1
  unfold dec1F
  rw [← hl1]
  by_cases d1 : m < 2
  · rw [if_pos (.inl d1)]
    have b1i : (m : Int) < 2 := by omega
    have b1 : decide ((m : Int) < 2) = true := decide_eq_true b1i
    clear h1 hl1
    go_enter Tryd.func24, Tryd.ntmps24
    go_wp2_with fail
    refine bodyPost_ret (results_tmp2 rfl _ _ _) rfl ?_
    exact ⟨none, 0, 0, rfl, Rd.nil _, Old.refl _⟩
  · have b1i : ¬ (m : Int) < 2 := by omega
    have b1 : decide ((m : Int) < 2) = false := decide_eq_false b1i
    obtain ⟨x0, hx0⟩ : ∃ x, em[0]? = some x := ⟨_, List.getElem?_eq_getElem (by omega)⟩
    obtain ⟨x1, hx1⟩ : ∃ x, em[1]? = some x := ⟨_, List.getElem?_eq_getElem (by omega)⟩
    have g0 : em.getD 0 0 = x0 := by rw [List.getD_eq_getElem?_getD, hx0]; rfl
    have g1 : em.getD 1 0 = x1 := by rw [List.getD_eq_getElem?_getD, hx1]; rfl
    rw [g0, g1]
    have h0m : 0 < m := by omega
    have h1m : 1 < m := by omega
    obtain ⟨be, oe, rfl, hat⟩ := h1.addr h0m
    have y0 := hat.2 0 x0 hx0
    have y1 := hat.2 1 x1 hx1
    rw [Nat.add_zero] at y0
    have h0c : 0 < c := by have := h1.2.1; omega
    have h1c : 1 < c := by have := h1.2.1; omega
    by_cases d2 : x0 = 0
    · have b2 : isN x0 0 = true := by rw [d2]; rfl
      by_cases d3 : x1 = 2
      · rw [if_neg (fun h => h.elim d1 (fun h => h.elim (fun h => h d2) (fun h => h d3)))]
        have b3 : isN x1 2 = true := by rw [d3]; rfl
        clear hat hx0 hx1 g0 g1 d2 d3
        obtain ⟨RS, hRS⟩ : ∃ R, (match cutZ (em.drop 2) with | none => ([], 64) | some (k, r) => if k < 8 then ([], 64) else (r, 0) : List UInt8 × Int) = R := ⟨_, rfl⟩
        show Calls _ _ _ _ (PRes w (match cutZ (em.drop 2) with | none => ([], 64) | some (k, r) => if k < 8 then ([], 64) else (r, 0) : List UInt8 × Int))
        rw [hRS]
        have hA1 : cutZ (em.drop 2) = none → RS = ([], 64) := fun h => by rw [← hRS, h]
        have hA2 : ∀ k r, cutZ (em.drop 2) = some (k, r) → k < 8 → RS = ([], 64) := fun k r h h2 => by rw [← hRS, h]; exact if_pos h2
        have hA3 : ∀ k r, cutZ (em.drop 2) = some (k, r) → ¬ k < 8 → RS = (r, 0) := fun k r h h2 => by rw [← hRS, h]; exact if_neg h2
        have HH := Lib.hid (And.intro h1 (And.intro hA1 (And.intro hA2 (And.intro hA3 (And.intro hl1 hm)))))
        clear h1 hA1 hA2 hA3 hl1 hRS hm

        obtain ⟨A9, n9, c9, hn9, hS10, hR9, _⟩ := HH.out.1.cut_ex2 (k := 2) (by omega)
        rw [show ((2 : Nat) : Int) = 2 from rfl] at hS10
        have hmb := HH.out.2.2.2.2.2
        cases hcz : cutZ (em.drop 2) with
        | none =>
          have hidx : idx0 (em.drop 2) = -1 := by unfold idx0; rw [hcz]
          have hcall := pidx_any A9 n9 c9 _ w hR9
          rw [hidx] at hcall
          have HG := Lib.hid (And.intro (HH.out.2.1 hcz) hcall)
          clear hcall hidx hcz hR9 hn9 hmb
          go_enter Tryd.func24, Tryd.ntmps24
          go_wp2_with fail
          refine HG.out.2.mono ?_
          rintro e w' ⟨rfl, rfl⟩
          go_wp2_with fail
          refine bodyPost_ret (results_tmp2 rfl _ _ _) rfl ?_
          rw [HG.out.1]
          exact ⟨none, 0, 0, rfl, Rd.nil _, Old.refl _⟩
        | some y =>
          obtain ⟨k, r⟩ := y
          have hidx : idx0 (em.drop 2) = (k : Int) := by unfold idx0; rw [hcz]
          have hcall := pidx_any A9 n9 c9 _ w hR9
          rw [hidx] at hcall
          by_cases e1 : k < 8
          · have b6 : decide ((k : Int) < 8) = true := decide_eq_true (by omega)
            have b6i : (k : Int) < 8 := by omega
            have HG := Lib.hid (And.intro (HH.out.2.2.1 _ _ hcz e1) hcall)
            clear hcall hidx hcz hR9 hn9 hmb e1
            go_enter Tryd.func24, Tryd.ntmps24
            go_wp2_with fail
            refine HG.out.2.mono ?_
            rintro e w' ⟨rfl, rfl⟩
            go_wp2_with fail
            refine bodyPost_ret (results_tmp2 rfl _ _ _) rfl ?_
            rw [HG.out.1]
            exact ⟨none, 0, 0, rfl, Rd.nil _, Old.refl _⟩
          · have b6 : decide ((k : Int) < 8) = false := decide_eq_false (by omega)
            have b6i : ¬ (k : Int) < 8 := by omega
            have hk := cutZ_split (em.drop 2) k r hcz
            have hkl := hk.1
            rw [List.length_drop, ← HH.out.2.2.2.2.1] at hkl
            obtain ⟨k2, hk2⟩ : ∃ k2, k + 2 = k2 := ⟨_, rfl⟩
            obtain ⟨k3, hk3⟩ : ∃ k3, k2 + 1 = k3 := ⟨_, rfl⟩
            have hk2i : 2 + (k : Int) = (k2 : Int) := by omega
            have hk3i : (k2 : Int) + 1 = (k3 : Int) := by omega
            have hk2w : IntKind.i64.wrap (k2 : Int) = (k2 : Int) := IntWalk.i64_in _ (by omega)
            have hk3w : IntKind.i64.wrap (k3 : Int) = (k3 : Int) := IntWalk.i64_in _ (by omega)
            obtain ⟨A8, n8, c8, hn8, hS8, hR8, _⟩ := HH.out.1.cut_ex2 (k := k3) (by omega)
            have hrl : em.drop k3 = r := by rw [← hk.2, List.drop_drop]; congr 1; omega
            rw [hrl] at hR8
            have HG := Lib.hid (And.intro (HH.out.2.2.2.1 _ _ hcz e1) (And.intro hcall (And.intro hR8 (show n8 ≤ 1000 by omega))))
            clear hcall hidx hcz hR9 hn9 hmb e1 hk hkl hk2 hk3 hR8 hn8 hrl
            go_enter Tryd.func24, Tryd.ntmps24
            go_wp2_with fail
            refine HG.out.2.1.mono ?_
            rintro e w' ⟨rfl, rfl⟩
            go_wp2_with fail
            refine (pclone_own A8 n8 c8 _ w HG.out.2.2.1 (by have := HG.out.2.2.2; omega)).mono ?_
            rintro e w6 ⟨A13, n13, c13, rfl, hR13, hB13⟩
            go_wp2_with fail
            refine bodyPost_ret (results_tmp2 rfl _ _ _) rfl ?_
            rw [HG.out.1]
            exact ⟨_, _, _, rfl, hR13.rd, hB13⟩
      · rw [if_pos (.inr (.inr d3))]
        have b3 : isN x1 2 = false := by unfold isN; simp only [beq_eq_false_iff_ne]; exact fun h => d3 (UInt8.toNat_inj.1 (by exact_mod_cast h))
        clear h1 hl1 hat hx0 hx1 g0 g1 d2 d3
        go_enter Tryd.func24, Tryd.ntmps24
        go_wp2_with fail
        refine bodyPost_ret (results_tmp2 rfl _ _ _) rfl ?_
        exact ⟨none, 0, 0, rfl, Rd.nil _, Old.refl _⟩
    · rw [if_pos (.inr (.inl d2))]
      have b2 : isN x0 0 = false := by unfold isN; simp only [beq_eq_false_iff_ne]; exact fun h => d2 (UInt8.toNat_inj.1 (by exact_mod_cast h))
      clear h1 hl1 hat hx0 hx1 g0 g1 d2
      go_enter Tryd.func24, Tryd.ntmps24
      go_wp2_with fail
      refine bodyPost_ret (results_tmp2 rfl _ _ _) rfl ?_
      exact ⟨none, 0, 0, rfl, Rd.nil _, Old.refl _⟩
end Go.Proofs.YtddemlajfbagdaaDoor
