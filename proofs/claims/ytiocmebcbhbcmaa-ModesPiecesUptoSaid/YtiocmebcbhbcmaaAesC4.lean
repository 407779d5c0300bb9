/-
  The reference's New: the same round keys.
-/
import Derived.Test.YtiocmebcbhbcmaaZzOwnR
import Derived.Test.YtiocmebcbhbcmaaZzWordsB
import Derived.Test.YtiocmebcbhbcmaaZzOwnR
import Derived.Deep.CutBlock
import Derived.StillTailTactics
namespace Go.Proofs.Ytiocmebcbhbcmaa
open Go.RowKit

/-- A round key's slice in the reference's row. -/
def keyV (g i : Nat) : Value := .slice (some ⟨g, 16 * i, none⟩) 16 16
def keysV (g R : Nat) : List Value := (List.range R).map (keyV g)
theorem keysV_len (g R : Nat) : (keysV g R).length = R := by simp [keysV]
theorem keysV_at (g R i : Nat) (h : i < R) : (keysV g R)[i]? = some (keyV g i) := by unfold keysV; rw [List.getElem?_map, List.getElem?_range h]; rfl
theorem keysV_succ (g R : Nat) : keysV g (R + 1) = keysV g R ++ [keyV g R] := by simp [keysV, List.range_succ]
theorem Try.rowKeys : RowT Try.prog 30 22 (.slice none 0 0) 1 24 := ⟨Try.underlying30, by kernel_rfl, by kernel_rfl, by omega⟩
/-- What the reference's New leaves. -/
def RNew (w : World) (l : List UInt8) (e : Ending) (w' : World) : Prop := ∃ c kb R cap g1 g2 : Nat, e = .returned (.pointer (some ⟨c, 0, none⟩)) ∧ RCip w' c kb R cap g1 g2 (rks l) ∧ Below w.heap.size w w'
theorem gm_two (x : UInt8) : gm x 2 = tw x := by revert x; refine all8 ?_; decide +kernel
set_option maxRecDepth 100000 in
theorem rnew_no (A : Option Addr) (m c : Nat) (w : World) (h : m ≠ 16 ∧ m ≠ 24 ∧ m ≠ 32) :
    Calls Try.prog 31 #[.slice A m c] w fun e w' => e = .returned (.pointer none) ∧ w' = w := by
  have h1 : ((m : Int) != 16) = true := by simp; omega
  have h2 : ((m : Int) != 24) = true := by simp; omega
  have h3 : ((m : Int) != 32) = true := by simp; omega
  have h1' : ¬ (m : Int) = 16 := by omega
  have h2' : ¬ (m : Int) = 24 := by omega
  have h3' : ¬ (m : Int) = 32 := by omega
  go_enter Try.func31, Try.ntmps31
  go_wp2
  go_ret
  exact ⟨rfl, rfl⟩
set_option maxRecDepth 100000 in
set_option maxHeartbeats 4000000 in
theorem rnew_any (A : Option Addr) (n0 cp : Nat) (l : List UInt8) (w : World) (h : Rd w A n0 cp l) (hl : l.length = 16 ∨ l.length = 24 ∨ l.length = 32) :
    Calls Try.prog 31 #[.slice A n0 cp] w (RNew w l) := by
  have hn0 := h.1
  have HR := Lib.hid h
  clear h
  subst hn0
  generalize hL : l.length = n0 at *
  obtain ⟨n, hn⟩ : ∃ n, n = n0 / 4 := ⟨_, rfl⟩
  have hnn : n0 = 4 * n := by omega
  have hn8 : n = 4 ∨ n = 6 ∨ n = 8 := by omega
  have hdiv : ((n0 : Int) / 4) = (n : Int) := by omega
  have hdiv' : (n0 : Int).tdiv 4 = (n : Int) := by rw [Int.tdiv_eq_ediv_of_nonneg (by omega)]; omega
  have HN := Lib.hid (And.intro hl (And.intro hn (And.intro hnn hn8)))
  have hle : n ≤ 8 := by omega
  have hge : 4 ≤ n := by omega
  have hle' : (n : Int) ≤ 8 := by omega
  have hge' : (4 : Int) ≤ n := by omega
  have hn32 : (n0 : Int) ≤ 32 := by omega
  have hn16 : (16 : Int) ≤ n0 := by omega
  clear hl hn hnn hn8
  go_enter Try.func31, Try.ntmps31
  go_upto_region 2 with (fail)
  go_cut [25] (fun v wx => v = .bool false ∧ w = wx)
  case first =>
    rcases HN.out.1 with h | h | h
    · have h1 : (n0 : Int) = 16 := by omega
      go_wp2
      go_meet
      case rel => exact ⟨rfl, rfl⟩
    · have h1 : (n0 : Int) = 24 := by omega
      go_wp2
      go_meet
      case rel => exact ⟨rfl, rfl⟩
    · have h1 : (n0 : Int) = 32 := by omega
      go_wp2
      go_meet
      case rel => exact ⟨rfl, rfl⟩
  obtain ⟨rfl, rfl⟩ := hcut
  go_wp2_with (first | (go_at_call 58; refine (boxes_any w).mono ?_; rintro e w1 ⟨g1, g2, rfl, hgne, hb1, hb2, hB1⟩; have H1 := Lib.hid (And.intro hb1 (And.intro hb2 (And.intro hB1 hgne))); clear hb1 hb2 hB1 hgne) | (at_builtin; go_must (refine wp_app2 (.const (.slice none 0 0)) (.tmp 33) w1.heap.size (.slice none 0 0) [] (Own.nil _ _) (Nat.le_refl _) A n0 cp l (HR.out.below H1.out.2.2.1) (by have := HR.out.2.2.1; unfold maxLen at this; simp; omega) rfl rfl rfl rfl ?_); intro A1 m1 c1 w2 hi1 hG; have H2 := Lib.hid hG; clear hG))
  go_loopw [7, 8] (fun sv rv wr => ∃ (m : Nat) (A' : Option Addr) (n' c' : Nat), m ≤ 3 * n + 28 ∧ sv = .slice A' n' c' ∧ rv = B (kW n l m).2 ∧ Own wr w1.heap.size (.slice A' n' c') (kW n l m).1 ∧ Below w1.heap.size w1 wr) (fun sv _ _ => 400 - sliceLen sv)
  case atStart => exact ⟨0, A1, m1, c1, by omega, rfl, rfl, H2.out.own, H2.out.below⟩
  case round =>
    obtain ⟨m, A', n', c', hm, rfl, rfl, hO, hB⟩ := hrel
    have hWl := kW_len n l (by omega) (by have := HN.out.2.2.1; omega) m
    have hn4 : n' = 4 * (n + m) := by have := hO.len; omega
    by_cases hlt : m < 3 * n + 28
    · have hm1 : ((kW n l (m + 1)).1, (kW n l (m + 1)).2) = ((kW n l m).1 ++ kAdd n (n + m) (kW n l m).2 (kW n l m).1, kRc n (n + m) (kW n l m).2) := rfl
      have HM1 := Lib.hid hm1
      clear hm1
      generalize hg1 : (kW n l (m + 1)).1 = W1 at *
      generalize hg2 : (kW n l (m + 1)).2 = rc1 at *
      have HG := Lib.hid (And.intro hg1 hg2)
      clear hg1 hg2
      generalize (kW n l m).1 = W at *
      generalize (kW n l m).2 = rc at *
      obtain ⟨i, hi⟩ : ∃ i, i = n + m := ⟨_, rfl⟩
      rw [← hi] at HM1 hWl hn4
      have HI := Lib.hid (And.intro hi (And.intro hm hlt))
      have q2 : (i : Int) < 60 := by omega
      have q3 : (4 : Int) ≤ i := by omega
      have q5 : i < 60 := by omega
      have q6 : 4 ≤ i := by omega
      have q1 : (4 : Int) * i < 16 * ((n : Int) + 6 + 1) := by omega
      obtain ⟨g, rfl⟩ : ∃ g, A' = some ⟨g, 0, none⟩ := by
        obtain ⟨g, c, e⟩ := hO.form (fun e => by injection e with _ e _; omega)
        cases e
        exact ⟨g, rfl⟩
      subst hn4
      clear hi hm hlt
      have hcap := hO.blk.2.1
      have hcapm := hO.blk.2.2.1
      unfold maxLen at hcapm
      have q7 : (4 : Int) * i ≤ c' := by omega
      have q8 : 4 * i - (4 * i - 4) = 4 := by omega
      have q9 : ¬ c' = 4 * i - 4 := by omega
      have q10 : (0 : Int) ≤ 4 * (i : Int) - 4 := by omega
      have q11 : IntKind.i64.wrap (4 * (i : Int) - 4) = 4 * (i : Int) - 4 := IntWalk.i64_in _ (by omega)
      have q12 : (4 * (i : Int) - 4).toNat = 4 * i - 4 := by omega
      have hd : ∀ j, 4 * i - 4 + j < 4 * i → W[4 * i - 4 + j]? = some (W.getD (4 * i - 4 + j) 0) := fun j hj => by
        rw [List.getD_eq_getElem?_getD, List.getElem?_eq_getElem (by omega)]; rfl
      have d0 := hd 0 (by omega)
      have d1 := hd 1 (by omega)
      have d2 := hd 2 (by omega)
      have d3 := hd 3 (by omega)
      clear hd
      have hti : kAdd n i rc W = List.zipWith (· ^^^ ·) ((W.drop (4 * (i - n))).take 4) (kT n i rc (W.getD (4 * i - 4 + 0) 0) (W.getD (4 * i - 4 + 1) 0) (W.getD (4 * i - 4 + 2) 0) (W.getD (4 * i - 4 + 3) 0)) := by
        unfold kAdd
        rw [show 4 * i - 4 + 0 = 4 * i - 4 by omega, show 4 * i - 4 + 1 = 4 * i - 3 by omega, show 4 * i - 4 + 2 = 4 * i - 2 by omega, show 4 * i - 4 + 3 = 4 * i - 1 by omega]
      generalize W.getD (4 * i - 4 + 0) 0 = t0 at *
      generalize W.getD (4 * i - 4 + 1) 0 = t1 at *
      generalize W.getD (4 * i - 4 + 2) 0 = t2 at *
      generalize W.getD (4 * i - 4 + 3) 0 = t3 at *
      have hcut := hO.rd.cut (k := 4 * i - 4) (by omega)
      rw [if_neg q9, q8] at hcut
      simp only [Option.map_some, Addr.add_mid, Nat.zero_add] at hcut
      have hdr : W.drop (4 * i - 4) = [t0, t1, t2, t3] := by
        refine List.ext_getElem? fun q => ?_
        rw [List.getElem?_drop]
        rcases q with _ | _ | _ | _ | q
        · exact d0
        · exact d1
        · exact d2
        · exact d3
        · rw [List.getElem?_eq_none (by omega)]; rfl
      rw [hdr] at hcut
      have HTi := Lib.hid hti
      have HW := Lib.hid (And.intro hO (And.intro hB (And.intro hWl hcut)))
      clear hO hB hWl hti d0 d1 d2 d3 hcut hdr
      go_upto_if 52 with (at_builtin; go_must (refine wp_app2 (.const (.slice none 0 0)) (.tmp 45) wr.heap.size (.slice none 0 0) [] (Own.nil _ _) (Nat.le_refl _) _ 4 (c' - (4 * i - 4)) [t0, t1, t2, t3] HW.out.2.2.2 (by simp) rfl rfl rfl rfl ?_); intro Ax nx cx w3 hi3 hG; have H3 := Lib.hid hG; clear hG)
      have hnx : nx = 4 := by have := H3.out.len; simpa using this
      obtain ⟨gx, rfl⟩ : ∃ gx, Ax = some ⟨gx, 0, none⟩ := by
        obtain ⟨q, c, e⟩ := H3.out.own.form (fun e => by injection e with _ e _; omega)
        cases e
        exact ⟨q, rfl⟩
      subst hnx
      have hgl := (HW.out.1.lt (g := g) rfl).2
      have hgx := (H3.out.own.lt (g := gx) rfl).1
      have hcx := H3.out.own.blk.2.1
      have hB3 := HW.out.2.1.trans (H3.out.below.mono HW.out.2.1.size)
      have hO3 := HW.out.1.below H3.out.below
      have hx3 := H3.out.own
      rw [List.nil_append] at hx3
      have hrc1 : rc1 = kRc n i rc := congrArg Prod.snd HM1.out
      have H4 := Lib.hid (And.intro hB3 (And.intro hO3 (And.intro hx3 hrc1)))
      clear hB3 hO3 hx3 hrc1 H3
      go_cut [8, 9] from 35 to 134 (fun rv xv wx => ∃ hx dx, rv = B rc1 ∧ xv = .slice (some ⟨hx, 0, none⟩) 4 dx ∧ hx ≠ g ∧ Rd wx (some ⟨hx, 0, none⟩) 4 dx (kT n i rc t0 t1 t2 t3) ∧ Own wx w1.heap.size (.slice (some ⟨g, 0, none⟩) (4 * i) c') W ∧ Below w1.heap.size w1 wx)
      case first =>
        obtain ⟨r, hr⟩ : ∃ r, r = i % n := ⟨_, rfl⟩
        have hmod : (4 * (i : Int)).tmod (n0 : Int) = 4 * (r : Int) := by
          have e : (4 * i) % n0 = 4 * r := by rw [HN.out.2.2.1, hr, Nat.mul_mod_mul_left]
          rw [Int.tmod_eq_emod_of_nonneg (by omega)]
          have := congrArg (Int.ofNat) e
          simpa using this
        have hmod' : (4 * (i : Int)) % (n0 : Int) = 4 * (r : Int) := by rw [← Int.tmod_eq_emod_of_nonneg (by omega)]; exact hmod
        have b0 := H4.out.2.2.1.cell 0 t0 rfl
        have b1 := H4.out.2.2.1.cell 1 t1 rfl
        have b2 := H4.out.2.2.1.cell 2 t2 rfl
        have b3 := H4.out.2.2.1.cell 3 t3 rfl
        have hbx := H1.out.1.below H4.out.1
        have x0 := hbx.cell _ _ (box_at t0)
        have x1 := hbx.cell _ _ (box_at t1)
        have x2 := hbx.cell _ _ (box_at t2)
        have x3 := hbx.cell _ _ (box_at t3)
        have e0 : (t0.toNat : Int) < 256 := by have := t0.toNat_lt; omega
        have e1 : (t1.toNat : Int) < 256 := by have := t1.toNat_lt; omega
        have e2 : (t2.toNat : Int) < 256 := by have := t2.toNat_lt; omega
        have e3 : (t3.toNat : Int) < 256 := by have := t3.toNat_lt; omega
        have hmk : ∀ (vs : List UInt8) (hv : vs.length = 4) (he : kT n i rc t0 t1 t2 t3 = vs), ∃ hx dx, (Value.slice (some ⟨w3.heap.size, 0, none⟩) 4 4) = .slice (some ⟨hx, 0, none⟩) 4 dx ∧ hx ≠ g ∧ Rd (w3.drew.alloc (.cells (vs.map B).toArray 5)) (some ⟨hx, 0, none⟩) 4 dx (kT n i rc t0 t1 t2 t3) ∧ Own (w3.drew.alloc (.cells (vs.map B).toArray 5)) w1.heap.size (.slice (some ⟨g, 0, none⟩) (4 * i) c') W ∧ Below w1.heap.size w1 (w3.drew.alloc (.cells (vs.map B).toArray 5)) := fun vs hv he => by
          have hg3 := (H4.out.2.1.lt (g := g) rfl).2
          refine ⟨w3.heap.size, 4, rfl, by omega, by rw [he]; exact rd_lit (w := w3.drew) rfl hv.symm (by omega), (show Own w3.drew _ _ _ from H4.out.2.1).alloc_ _, ?_⟩
          exact (H4.out.1.drew).alloc H4.out.1.size _
        have HMk := Lib.hid hmk
        have Hr1 := Lib.hid H4.out.2.2.2
        clear hmk hbx
        by_cases hr0 : r = 0
        · have r1 : (4 * (r : Int) == 0) = true := by simp; omega
          have hk : kT n i rc t0 t1 t2 t3 = [sb t1 ^^^ rc, sb t2, sb t3, sb t0] := by unfold kT; rw [if_pos (by omega)]
          have hk2 : kRc n i rc = tw rc := by unfold kRc; rw [if_pos (by omega)]
          have HK := Lib.hid (And.intro (HMk.out _ rfl hk) hk2)
          have hT : ∀ w, Calls Try.prog 59 #[B rc, .int .u8 2] w fun e w' => e = .returned (B (tw rc)) ∧ w = w' := fun w => by have := rtimes_any rc 2 w; rw [gm_two] at this; exact this
          have HT := Lib.hid hT
          have r2 : (4 * (r : Int)) = 0 := by omega
          clear hk hk2 hT
          go_wp2_with fail
          go_still_tail 26, (by kernel_rfl)
          go_wp2_with (go_at_call 59; go_must (refine (HT.out _).mono ?_); rintro e wx ⟨rfl, rfl⟩)
          go_meet
          case rel =>
            obtain ⟨hx, dx, a1, a2, a3, a4, a5⟩ := HK.out.1
            exact ⟨hx, dx, by rw [Hr1.out, HK.out.2], a1, a2, a3, a4, a5⟩
        · have r1 : (4 * (r : Int) == 0) = false := by simp; omega
          have r2 : ¬ (4 * (r : Int)) = 0 := by omega
          have hk2 : kRc n i rc = rc := by unfold kRc; rw [if_neg (by omega)]
          have hg3 := (H4.out.2.1.lt (g := g) rfl).2
          have hsame : kT n i rc t0 t1 t2 t3 = [t0, t1, t2, t3] → ∃ hx dx, (Value.slice (some ⟨gx, 0, none⟩) 4 cx) = .slice (some ⟨hx, 0, none⟩) 4 dx ∧ hx ≠ g ∧ Rd w3 (some ⟨hx, 0, none⟩) 4 dx (kT n i rc t0 t1 t2 t3) ∧ Own w3 w1.heap.size (.slice (some ⟨g, 0, none⟩) (4 * i) c') W ∧ Below w1.heap.size w1 w3 := fun hk => ⟨gx, cx, rfl, by omega, by rw [hk]; exact H4.out.2.2.1.rd, H4.out.2.1, H4.out.1⟩
          have HSm := Lib.hid hsame
          clear hsame
          by_cases h8 : n = 8
          · have s1 : (n0 : Int) = 32 := by have := HN.out.2.2.1; omega
            have s2 : ((n0 : Int) == 32) = true := by simp; omega
            by_cases h4 : r = 4
            · have s3 : (4 * (r : Int)) = 16 := by omega
              have s4 : (4 * (r : Int) == 16) = true := by simp; omega
              have hk : kT n i rc t0 t1 t2 t3 = [sb t0, sb t1, sb t2, sb t3] := by unfold kT; rw [if_neg (by omega), if_pos ⟨by omega, by omega⟩]
              have HK := Lib.hid (And.intro (HMk.out _ rfl hk) hk2)
              clear hk hk2 s1 s3 h8 h4
              go_wp2_with fail
              go_still_tail 24, (by kernel_rfl)
              go_wp2_with fail
              go_meet
              case rel =>
                obtain ⟨hx, dx, a1, a2, a3, a4, a5⟩ := HK.out.1
                exact ⟨hx, dx, by rw [Hr1.out, HK.out.2], a1, a2, a3, a4, a5⟩
            · have s3 : ¬ (4 * (r : Int)) = 16 := by omega
              have s4 : (4 * (r : Int) == 16) = false := by simp; omega
              have hk : kT n i rc t0 t1 t2 t3 = [t0, t1, t2, t3] := by unfold kT; rw [if_neg (by omega), if_neg (by omega)]
              have HK := Lib.hid (And.intro (HSm.out hk) hk2)
              clear hk hk2 s1 h8 h4
              go_wp2_with fail
              go_meet
              case rel =>
                obtain ⟨hx, dx, a1, a2, a3, a4, a5⟩ := HK.out.1
                exact ⟨hx, dx, by rw [Hr1.out, HK.out.2], a1, a2, a3, a4, a5⟩
          · have s1 : ¬ (n0 : Int) = 32 := by have := HN.out.2.2.1; omega
            have s2 : ((n0 : Int) == 32) = false := by simp; omega
            have hk : kT n i rc t0 t1 t2 t3 = [t0, t1, t2, t3] := by unfold kT; rw [if_neg (by omega), if_neg (by have := HN.out.2.2.2; omega)]
            have HK := Lib.hid (And.intro (HSm.out hk) hk2)
            clear hk hk2
            go_wp2_with fail
            go_meet
            case rel =>
              obtain ⟨hx, dx, a1, a2, a3, a4, a5⟩ := HK.out.1
              exact ⟨hx, dx, by rw [Hr1.out, HK.out.2], a1, a2, a3, a4, a5⟩
      case rest =>
        obtain ⟨hx, dx, rfl, rfl, hne, hX, hO, hB⟩ := hcut
        obtain ⟨T, hT⟩ : ∃ T, T = kT n i rc t0 t1 t2 t3 := ⟨_, rfl⟩
        rw [← hT] at hX
        obtain ⟨K, hK⟩ : ∃ K, K = kAdd n i rc W := ⟨_, rfl⟩
        have hTl : T.length = 4 := by rw [hT]; exact kT_len _ _ _ _ _ _ _
        have hKl : K.length = 4 := by rw [hK]; exact kAdd_len _ _ _ _ (by rw [HW.out.2.2.1]; omega)
        have hKk : ∀ j x y, T[j]? = some x → W[4 * (i - n) + j]? = some y → K[j]? = some (y ^^^ x) := fun j x y hx hy => by
          have hj : j < 4 := by have := (List.getElem?_eq_some_iff.1 hx).1; omega
          rw [hK, HTi.out, ← hT, List.getElem?_zipWith, hx, List.getElem?_take, if_pos hj, List.getElem?_drop, hy]
        have HKA := Lib.hid (And.intro hTl (And.intro hKl (And.intro hKk hK)))
        have hdx := hX.2.1
        have HC := Lib.hid (And.intro hO (And.intro hB hX))
        clear hO hB hX hTl hKl hKk hK hT H4
        go_wp2_with fail
        go_loopw [7, 11] (fun sv jv wz => ∃ (j : Nat) (A2 : Option Addr) (n2 c2 : Nat), j ≤ 4 ∧ sv = .slice A2 n2 c2 ∧ jv = .int .i64 (j : Int) ∧ Own wz w1.heap.size (.slice A2 n2 c2) (W ++ K.take j) ∧ Below w1.heap.size w1 wz ∧ Rd wz (some ⟨hx, 0, none⟩) 4 dx T ∧ (Value.slice A2 n2 c2).ownBlock ≠ some hx) (fun _ jv _ => 4 - (intOf jv).toNat)
        case atStart => exact ⟨0, _, _, _, by omega, rfl, rfl, by simpa using HC.out.1, HC.out.2.1, HC.out.2.2, by simp [Value.ownBlock]; omega⟩
        case round =>
          obtain ⟨j, A2, n2, c2, hj, rfl, rfl, hO, hB, hX, hnx⟩ := hrel
          clear HC
          by_cases hjlt : j < 4
          · have hq : (j : Int) < 4 := by omega
            obtain ⟨x, hxx⟩ := at4 T HKA.out.1 j hjlt
            obtain ⟨y, hy⟩ : ∃ y, W[4 * (i - n) + j]? = some y := ⟨_, List.getElem?_eq_getElem (by rw [HW.out.2.2.1]; have := HI.out.1; omega)⟩
            have hlen : (W ++ K.take j).length = 4 * i + j := by rw [List.length_append, List.length_take, HKA.out.2.1, HW.out.2.2.1]; omega
            have hn2 : n2 = 4 * i + j := by have := hO.len; omega
            obtain ⟨g2, rfl⟩ : ∃ g2, A2 = some ⟨g2, 0, none⟩ := by
              obtain ⟨g2, c, e⟩ := hO.form (fun e => by injection e with _ e _; omega)
              cases e
              exact ⟨g2, rfl⟩
            subst hn2
            have hnn := HN.out.2.2.1
            have hni : n ≤ i := by have := HI.out.1; omega
            have g1' : IntKind.i64.wrap (4 * (i : Int) + j) = 4 * (i : Int) + j := IntWalk.i64_in _ (by omega)
            have g2' : IntKind.i64.wrap (4 * (i : Int) + j - n0) = 4 * (i : Int) + j - n0 := IntWalk.i64_in _ (by omega)
            have g3 : (4 * (i : Int) + j - n0).toNat = 4 * (i - n) + j := by omega
            have g4 : (0 : Int) ≤ 4 * (i : Int) + j - n0 := by omega
            have g6 : (n0 : Int) ≤ 4 * (i : Int) + j := by omega
            have g5 : 4 * (i : Int) + j - n0 < 4 * (i : Int) + j := by omega
            have hF1 : ∀ wq, Tow w1.heap.size (.slice (some ⟨g2, 0, none⟩) (4 * i + j) c2) (W ++ K.take j) wr wq → wq.cell? ⟨g2, 4 * (i - n) + j, none⟩ = some (B y) := fun wq hq => hq.2.cell _ y (by rw [List.getElem?_append_left (by have := (List.getElem?_eq_some_iff.1 hy).1; omega)]; exact hy)
            have hF2 : ∀ wq, Tow w1.heap.size (.slice (some ⟨g2, 0, none⟩) (4 * i + j) c2) (W ++ K.take j) wr wq → wq.cell? ⟨hx, j, none⟩ = some (B x) := fun wq hq => by
              have h1 := hX.tow (fun ad had hm => by cases had; exact hnx (by simpa using hm)) hq
              obtain ⟨b, o, e, ha⟩ := h1.addr (by omega)
              cases e
              have := ha.2 j x hxx
              rwa [Nat.zero_add] at this
            have HF := Lib.hid (And.intro hF1 hF2)
            have hkj := HKA.out.2.2.1 j x y hxx hy
            have HO := Lib.hid (And.intro hO (And.intro hB (And.intro hX (And.intro hnx (And.intro hlen hkj)))))
            clear hO hB hX hnx hlen hkj hF1 hF2 hxx hy hnn hj
            go_wp2_with fail
            refine region_tow HO.out.1 (by kernel_rfl) (fun wd hHeld hSz => ?_)
            have HSz := Lib.hid hSz
            clear hSz
            refine takeL (i := 0) (v := ?_) rfl (by kernel_rfl) (by kernel_rfl) (by kernel_rfl) (fun _ _ _ h => h) (Or.inl ⟨by rfl, ?_⟩) hHeld ?_
            rotate_left
            focus (intro wq hSw; clear hSw; go_simp; try with_reducible rfl)
            try simp only [Act.put, List.setIfInBounds_toArray, List.set_cons_zero, List.set_cons_succ]
            refine takeL (i := 1) (v := ?_) rfl (by kernel_rfl) (by kernel_rfl) (by kernel_rfl) (fun _ _ _ h => h) (Or.inl ⟨by rfl, ?_⟩) hHeld ?_
            rotate_left
            focus (intro wq hSw; clear hSw; go_simp; try with_reducible rfl)
            try simp only [Act.put, List.setIfInBounds_toArray, List.set_cons_zero, List.set_cons_succ]
            refine takeL (i := 2) (v := ?_) rfl (by kernel_rfl) (by kernel_rfl) (by kernel_rfl) (fun _ _ _ h => h) (Or.inl ⟨by rfl, ?_⟩) hHeld ?_
            rotate_left
            focus (intro wq hSw; clear hSw; go_simp; try with_reducible rfl)
            try simp only [Act.put, List.setIfInBounds_toArray, List.set_cons_zero, List.set_cons_succ]
            refine takeL (i := 3) (v := ?_) rfl (by kernel_rfl) (by kernel_rfl) (by kernel_rfl) (fun _ _ _ h => h) (Or.inl ⟨by rfl, ?_⟩) hHeld ?_
            rotate_left
            focus (intro wq hSw; clear hSw; go_simp; try with_reducible rfl)
            try simp only [Act.put, List.setIfInBounds_toArray, List.set_cons_zero, List.set_cons_succ]
            refine takeL (i := 4) (v := ?_) rfl (by kernel_rfl) (by kernel_rfl) (by kernel_rfl) (fun _ _ _ h => h) (Or.inl ⟨by rfl, ?_⟩) hHeld ?_
            rotate_left
            focus (intro wq hSw; clear hSw; go_simp; try with_reducible rfl)
            try simp only [Act.put, List.setIfInBounds_toArray, List.set_cons_zero, List.set_cons_succ]
            refine takeL (i := 5) (v := ?_) rfl (by kernel_rfl) (by kernel_rfl) (by kernel_rfl) (fun _ _ _ h => h) (Or.inl ⟨by rfl, ?_⟩) hHeld ?_
            rotate_left
            focus (intro wq hSw; clear hSw; go_simp; try with_reducible rfl)
            try simp only [Act.put, List.setIfInBounds_toArray, List.set_cons_zero, List.set_cons_succ]
            refine takeL (i := 6) (v := ?_) rfl (by kernel_rfl) (by kernel_rfl) (by kernel_rfl) (fun _ _ _ h => h) (Or.inl ⟨by rfl, ?_⟩) hHeld ?_
            rotate_left
            focus (intro wq hSw; clear hSw; go_simp; try with_reducible rfl)
            try simp only [Act.put, List.setIfInBounds_toArray, List.set_cons_zero, List.set_cons_succ]
            refine takeL (i := 7) (v := ?_) rfl (by kernel_rfl) (by kernel_rfl) (by kernel_rfl) (fun _ _ _ h => h) (Or.inl ⟨by rfl, ?_⟩) hHeld ?_
            rotate_left
            focus (intro wq hSw; clear hSw; go_simp; try with_reducible rfl)
            try simp only [Act.put, List.setIfInBounds_toArray, List.set_cons_zero, List.set_cons_succ]
            refine takeL (i := 8) (v := ?_) rfl (by kernel_rfl) (by kernel_rfl) (by kernel_rfl) (fun _ _ _ h => h) (Or.inl ⟨by rfl, ?_⟩) hHeld ?_
            rotate_left
            focus (intro wq hSw; have y0 := HF.out.1 wq hSw; clear hSw; go_simp; try with_reducible rfl)
            try simp only [Act.put, List.setIfInBounds_toArray, List.set_cons_zero, List.set_cons_succ]
            refine takeL (i := 9) (v := ?_) rfl (by kernel_rfl) (by kernel_rfl) (by kernel_rfl) (fun _ _ _ h => h) (Or.inl ⟨by rfl, ?_⟩) hHeld ?_
            rotate_left
            focus (intro wq hSw; clear hSw; go_simp; try with_reducible rfl)
            try simp only [Act.put, List.setIfInBounds_toArray, List.set_cons_zero, List.set_cons_succ]
            refine takeL (i := 10) (v := ?_) rfl (by kernel_rfl) (by kernel_rfl) (by kernel_rfl) (fun _ _ _ h => h) (Or.inl ⟨by rfl, ?_⟩) hHeld ?_
            rotate_left
            focus (intro wq hSw; clear hSw; go_simp; try with_reducible rfl)
            try simp only [Act.put, List.setIfInBounds_toArray, List.set_cons_zero, List.set_cons_succ]
            refine takeL (i := 11) (v := ?_) rfl (by kernel_rfl) (by kernel_rfl) (by kernel_rfl) (fun _ _ _ h => h) (Or.inl ⟨by rfl, ?_⟩) hHeld ?_
            rotate_left
            focus (intro wq hSw; clear hSw; go_simp; try with_reducible rfl)
            try simp only [Act.put, List.setIfInBounds_toArray, List.set_cons_zero, List.set_cons_succ]
            refine takeL (i := 12) (v := ?_) rfl (by kernel_rfl) (by kernel_rfl) (by kernel_rfl) (fun _ _ _ h => h) (Or.inl ⟨by rfl, ?_⟩) hHeld ?_
            rotate_left
            focus (intro wq hSw; have y1 := HF.out.2 wq hSw; clear hSw; go_simp; try with_reducible rfl)
            try simp only [Act.put, List.setIfInBounds_toArray, List.set_cons_zero, List.set_cons_succ]
            refine takeL (i := 13) (v := ?_) rfl (by kernel_rfl) (by kernel_rfl) (by kernel_rfl) (fun _ _ _ h => h) (Or.inl ⟨by rfl, ?_⟩) hHeld ?_
            rotate_left
            focus (intro wq hSw; clear hSw; go_simp; try with_reducible rfl)
            try simp only [Act.put, List.setIfInBounds_toArray, List.set_cons_zero, List.set_cons_succ]
            refine wpAnyH_ready (rs := [14]) (by kernel_rfl) (by simp) ?_
            refine consL rfl (fun K1 hK => ?_) AllReadyH.nil
            go_simp
            refine hK.out _ _ (hHeld.alloc _) (fun hHeld => ?_)
            clear hK K1
            try simp only [Act.put, List.setIfInBounds_toArray, List.set_cons_zero, List.set_cons_succ]
            refine wpAnyH_ready (rs := [15]) (by kernel_rfl) (by simp) ?_
            refine consL rfl (fun K2 hK => ?_) AllReadyH.nil
            rw [if_pos (by rfl)]
            refine op_app_keep2 (.tmp 119) (.tmp 133) rfl w1.heap.size (.slice (some ⟨g2, 0, none⟩) (4 * i + j) c2) (W ++ K.take j) rfl hHeld.2 (some ⟨wd.heap.size, 0, none⟩) 1 1 [y ^^^ x] rfl (rd_lit (l2 := [y ^^^ x]) rfl rfl (by omega)) (by rw [HO.out.2.2.2.2.1]; simp; omega) (Nat.le_trans HO.out.2.1.size hHeld.1.size) ?_
            intro A8 n8 c8 w8 hO8 hOl hg8 hb9
            have hb8 := hHeld.app hg8 hOl
            refine hK.out _ _ hb8 (fun hHeld => ?_)
            clear hK K2 hg8 hOl
            try simp only [Act.put, List.setIfInBounds_toArray, List.set_cons_zero, List.set_cons_succ]
            have hnx8 : (Value.slice A8 n8 c8).ownBlock ≠ some hx := by
              rcases hb9 with e | e
              · rw [e]; exact HO.out.2.2.2.1
              · rw [e]; intro e2; injection e2 with e2; have h1 : hx < wr.heap.size := HO.out.2.2.1.lt _ rfl; have h2 := HSz.out; simp at e2; omega
            have H8 := Lib.hid (And.intro hO8 (And.intro hb8 hnx8))
            clear hO8 hb8 hnx8 hb9
            refine takeL (i := 16) (v := ?_) rfl (by kernel_rfl) (by kernel_rfl) (by kernel_rfl) (fun _ _ _ h => h) (Or.inl ⟨by rfl, ?_⟩) hHeld ?_
            rotate_left
            focus (intro wq hSw; clear hSw; go_simp; try with_reducible rfl)
            try simp only [Act.put, List.setIfInBounds_toArray, List.set_cons_zero, List.set_cons_succ]
            refine wpAnyH_done (by kernel_rfl) ?_ _
            refine NoPanic.normal ?_
            clear hHeld
            go_wp2_with fail
            go_roundw
            case rel =>
              have h1 := H8.out.1
              rw [List.append_assoc, show K.take j ++ [y ^^^ x] = K.take (j + 1) by rw [List.take_add_one, HO.out.2.2.2.2.2]; rfl] at h1
              refine ⟨j + 1, A8, n8, c8, by omega, rfl, by go_num, h1, below_turn HO.out.2.1 H8.out.2.1.1 (fun t ht => (HO.out.1.lt (show _ = some t by simpa using ht)).1) HO.out.2.1.size, HO.out.2.2.1.tow (fun ad had hm => by cases had; exact HO.out.2.2.2.1 (by simpa using hm)) H8.out.2.1, H8.out.2.2⟩
            case measure => simp [intOf]; omega
          · obtain rfl : j = 4 := by omega
            have hq : ¬ ((4 : Int) < 4) := by omega
            have hW1 : W1 = W ++ K.take 4 := by
              have := congrArg Prod.fst HM1.out
              rw [← HKA.out.2.2.2] at this
              rw [List.take_of_length_le (by rw [HKA.out.2.1]; omega)]
              exact this
            have hlw := hO.len
            rw [← hW1] at hO
            have HO := Lib.hid (And.intro hO hB)
            have hln : n2 = 4 * i + 4 := by rw [hlw, List.length_append, List.length_take, HKA.out.2.1, HW.out.2.2.1]; omega
            clear hO hB hX hnx hj hjlt hlw hW1
            have HLn := Lib.hid hln
            clear hln
            go_wp2_with fail
            have h60 := HI.out
            go_roundw
            case rel => exact ⟨m + 1, A2, n2, c2, by omega, rfl, by rw [HG.out.2], by rw [HG.out.1]; exact HO.out.1, HO.out.2⟩
            case measure => have := HLn.out; simp [sliceLen]; omega
    · --EXIT
      have hme : m = 3 * n + 28 := by omega
      have hnn0 := HN.out.2.2.1
      subst hme
      have hks : (kW n l (3 * n + 28)).1 = rks l := by unfold rks; rw [hL, HN.out.2.1]
      rw [hks] at hO hWl
      have hWl' : (rks l).length = 16 * (n + 7) := by omega
      have hnW : n' = 16 * (n + 7) := by have := hO.len; omega
      obtain ⟨g, rfl⟩ : ∃ g, A' = some ⟨g, 0, none⟩ := by
        obtain ⟨g, c, e⟩ := hO.form (fun e => by injection e with _ e _; omega)
        cases e
        exact ⟨g, rfl⟩
      subst hnW
      have hcap := hO.blk.2.1
      have hcapm := hO.blk.2.2.1
      unfold maxLen at hcapm
      have r1 : ¬ (16 * ((n : Int) + 7) < 16 * ((n : Int) + 6 + 1)) := by omega
      have r2 : (16 : Int) * ((n : Int) + 7) ≤ c' := by omega
      obtain ⟨C, hCs⟩ : ∃ C, wr.heap.size = C := ⟨_, rfl⟩
      have hR1 := H1.out.1.below hB
      have hR2 := H1.out.2.1.below hB
      have hB0 := H1.out.2.2.1.trans (hB.mono H1.out.2.2.1.size)
      have hC0 : Blk (wr.alloc (.cells #[.slice none 0 0, .slice (some ⟨g1, 0, none⟩) 256 256, .slice (some ⟨g2, 0, none⟩) 256 256] 67)) C 67 #[.slice none 0 0, .slice (some ⟨g1, 0, none⟩) 256 256, .slice (some ⟨g2, 0, none⟩) 256 256] := by rw [← hCs]; exact Blk.new _ _ _
      have hB1 : Below C wr (wr.alloc (.cells #[.slice none 0 0, .slice (some ⟨g1, 0, none⟩) 256 256, .slice (some ⟨g2, 0, none⟩) 256 256] 67)) := by rw [← hCs]; exact (Below.refl _ _).alloc (Nat.le_refl _) _
      have HX := Lib.hid (And.intro hO (And.intro hR1 (And.intro hR2 (And.intro hB0 (And.intro hWl' (And.intro hC0 (And.intro hB1 hCs)))))))
      clear hO hB hWl hWl' hks hm hlt hR1 hR2 hB0 hC0 hB1 hCs H1 H2
      generalize g1 = h1 at *
      generalize g2 = h2 at *
      go_wp2_with fail
      rw [HX.out.2.2.2.2.2.2.2]
      go_loopw [13] (fun jv wz => ∃ (R : Nat) (kv : Value), R ≤ n + 7 ∧ jv = .int .i64 (R : Int) ∧ Blk wz C 67 #[kv, .slice (some ⟨h1, 0, none⟩) 256 256, .slice (some ⟨h2, 0, none⟩) 256 256] ∧ OwnR wz (C + 1) 22 1 kv R (keysV g R) ∧ Below C wr wz) (fun jv _ => n + 7 - (intOf jv).toNat)
      case atStart => exact ⟨0, .slice none 0 0, by omega, rfl, HX.out.2.2.2.2.2.1, OwnR.nil _ _ _ _, HX.out.2.2.2.2.2.2.1⟩
      case round w0 =>
        obtain ⟨R, kv, hR, rfl, hC, hK, hB⟩ := hrel
        have hCs := HX.out.2.2.2.2.2.2.2
        by_cases hlt : R < n + 7
        · have s9 : (R : Int) ≤ (n : Int) + 6 := by omega
          have s1 : (16 : Int) * R + 16 ≤ 16 * ((n : Int) + 7) := by omega
          have s0 : IntKind.i64.wrap ((16 : Int) * R + 16) = (16 : Int) * R + 16 := IntWalk.i64_in _ (by omega)
          have s2 : (0 : Int) ≤ 16 * (R : Int) := by omega
          have s3 : (16 * (R : Int)).toNat = 16 * R := by omega
          have s4 : (16 * (R : Int) + 16).toNat = 16 * R + 16 := by omega
          have s5 : 16 * R + 16 - 16 * R = 16 := by omega
          have s6 : 16 * (R : Int) ≤ 16 * (R : Int) + 16 := by omega
          have s10 : IntKind.i64.wrap ((16 : Int) * R) = (16 : Int) * R := IntWalk.i64_in _ (by omega)
          have s11 : max ((16 : Int) * R + 16) 0 = (16 : Int) * R + 16 := by omega
          have s12 : (0 : Int) ≤ 16 * (R : Int) + 16 := by omega
          have s7 : (16 : Int) * R + 16 ≤ c' := by omega
          have s8 : ¬ 16 * R + 16 = 16 * R := by omega
          have hclt : C < wr.heap.size := hC.lt
          have HK := Lib.hid (And.intro hC (And.intro hK hB))
          have HCs := Lib.hid hCs
          clear hC hK hB hCs
          go_wp2_with fail
          have hCs := HCs.out
          refine region_turn (C :: kv.ownBlock.toList) (by kernel_rfl) (fun wd hOld hHeld hSz => ?_)
          have HO := Lib.hid hOld
          clear hOld
          have c0 : wd.cell? ⟨C, 0, none⟩ = some kv := by rw [(HK.out.1.below HO.out).cell 0]; rfl
          have f0 : wd.frozen? ⟨C, 0, none⟩ = false := (HK.out.1.below HO.out).frozen 0
          have z0 : C < wd.heap.size := (HK.out.1.below HO.out).lt
          refine takeL (i := 0) (v := ?_) rfl (by kernel_rfl) (by kernel_rfl) (by kernel_rfl) (fun _ _ _ h => h) (Or.inl ⟨by rfl, ?_⟩) hHeld ?_
          rotate_left
          focus (intro wq hSw; clear hSw; go_simp; try with_reducible rfl)
          try simp only [Act.put, List.setIfInBounds_toArray, List.set_cons_zero, List.set_cons_succ]
          refine takeL (i := 1) (v := ?_) rfl (by kernel_rfl) (by kernel_rfl) (by kernel_rfl) (fun _ _ _ h => h) (Or.inl ⟨by rfl, ?_⟩) hHeld ?_
          rotate_left
          focus (intro wq hSw; clear hSw; go_simp; try with_reducible rfl)
          try simp only [Act.put, List.setIfInBounds_toArray, List.set_cons_zero, List.set_cons_succ]
          refine takeL (i := 2) (v := ?_) rfl (by kernel_rfl) (by kernel_rfl) (by kernel_rfl) (fun _ _ _ h => h) (Or.inl ⟨by rfl, ?_⟩) hHeld ?_
          rotate_left
          focus (intro wq hSw; clear hSw; go_simp; try with_reducible rfl)
          try simp only [Act.put, List.setIfInBounds_toArray, List.set_cons_zero, List.set_cons_succ]
          refine takeL (i := 3) (v := ?_) rfl (by kernel_rfl) (by kernel_rfl) (by kernel_rfl) (fun _ _ _ h => h) (Or.inl ⟨by rfl, ?_⟩) hHeld ?_
          rotate_left
          focus (intro wq hSw; clear hSw; go_simp; try with_reducible rfl)
          try simp only [Act.put, List.setIfInBounds_toArray, List.set_cons_zero, List.set_cons_succ]
          refine takeL (i := 5) (v := ?_) rfl (by kernel_rfl) (by kernel_rfl) (by kernel_rfl) (fun _ _ _ h => h) (Or.inl ⟨by rfl, ?_⟩) hHeld ?_
          rotate_left
          focus (intro wq hSw; clear hSw; go_simp; try with_reducible rfl)
          try simp only [Act.put, List.setIfInBounds_toArray, List.set_cons_zero, List.set_cons_succ]
          refine takeL (i := 6) (v := ?_) rfl (by kernel_rfl) (by kernel_rfl) (by kernel_rfl) (fun _ _ _ h => h) (Or.inl ⟨by rfl, ?_⟩) hHeld ?_
          rotate_left
          focus (intro wq hSw; clear hSw; go_simp; try with_reducible rfl)
          try simp only [Act.put, List.setIfInBounds_toArray, List.set_cons_zero, List.set_cons_succ]
          refine takeL (i := 7) (v := ?_) rfl (by kernel_rfl) (by kernel_rfl) (by kernel_rfl) (fun _ _ _ h => h) (Or.inl ⟨by rfl, ?_⟩) hHeld ?_
          rotate_left
          focus (intro wq hSw; clear hSw; go_simp; try with_reducible rfl)
          try simp only [Act.put, List.setIfInBounds_toArray, List.set_cons_zero, List.set_cons_succ]
          refine takeL (i := 8) (v := ?_) rfl (by kernel_rfl) (by kernel_rfl) (by kernel_rfl) (fun _ _ _ h => h) (Or.inl ⟨by rfl, ?_⟩) hHeld ?_
          rotate_left
          focus (intro wq hSw; clear hSw; go_simp; try with_reducible rfl)
          try simp only [Act.put, List.setIfInBounds_toArray, List.set_cons_zero, List.set_cons_succ]
          refine takeL (i := 9) (v := ?_) rfl (by kernel_rfl) (by kernel_rfl) (by kernel_rfl) (fun _ _ _ h => h) (Or.inl ⟨by rfl, ?_⟩) hHeld ?_
          rotate_left
          focus (intro wq hSw; clear hSw; go_simp; try with_reducible rfl)
          try simp only [Act.put, List.setIfInBounds_toArray, List.set_cons_zero, List.set_cons_succ]
          refine takeL (i := 10) (v := ?_) rfl (by kernel_rfl) (by kernel_rfl) (by kernel_rfl) (fun _ _ _ h => h) (Or.inl ⟨by rfl, ?_⟩) hHeld ?_
          rotate_left
          focus (intro wq hSw; clear hSw; go_simp; try with_reducible rfl)
          try simp only [Act.put, List.setIfInBounds_toArray, List.set_cons_zero, List.set_cons_succ]
          refine takeL (i := 11) (v := ?_) rfl (by kernel_rfl) (by kernel_rfl) (by kernel_rfl) (fun _ _ _ h => h) (Or.inl ⟨by rfl, ?_⟩) hHeld ?_
          rotate_left
          focus (intro wq hSw; clear hSw; go_simp; try with_reducible rfl)
          try simp only [Act.put, List.setIfInBounds_toArray, List.set_cons_zero, List.set_cons_succ]
          refine takeL (i := 12) (v := ?_) rfl (by kernel_rfl) (by kernel_rfl) (by kernel_rfl) (fun _ _ _ h => h) (Or.inl ⟨by rfl, ?_⟩) hHeld ?_
          rotate_left
          focus (intro wq hSw; clear hSw; go_simp; try with_reducible rfl)
          try simp only [Act.put, List.setIfInBounds_toArray, List.set_cons_zero, List.set_cons_succ]
          refine takeL (i := 13) (v := ?_) rfl (by kernel_rfl) (by kernel_rfl) (by kernel_rfl) (fun _ _ _ h => h) (Or.inl ⟨by rfl, ?_⟩) hHeld ?_
          rotate_left
          focus (intro wq hSw; clear hSw; go_simp; try with_reducible rfl)
          try simp only [Act.put, List.setIfInBounds_toArray, List.set_cons_zero, List.set_cons_succ]
          refine takeL (i := 14) (v := ?_) rfl (by kernel_rfl) (by kernel_rfl) (by kernel_rfl) (fun _ _ _ h => h) (Or.inl ⟨by rfl, ?_⟩) hHeld ?_
          rotate_left
          focus (intro wq hSw; clear hSw; go_simp; try with_reducible rfl)
          try simp only [Act.put, List.setIfInBounds_toArray, List.set_cons_zero, List.set_cons_succ]
          refine wpAnyH_ready (rs := [4, 15]) (by kernel_rfl) (by simp) ?_
          refine consL rfl (fun K hK => ?_) (consL rfl (fun K hK => ?_) AllReadyH.nil)
          · go_simp
            refine hK.out _ _ hHeld (fun hHeld => ?_)
            clear hK K
            try simp only [Act.put, List.setIfInBounds_toArray, List.set_cons_zero, List.set_cons_succ]
            refine wpAnyH_ready (rs := [15]) (by kernel_rfl) (by simp) ?_
            refine consL rfl (fun K hK => ?_) AllReadyH.nil
            go_simp
            refine hK.out _ _ (hHeld.alloc _) (fun hHeld => ?_)
            clear hK K
            try simp only [Act.put, List.setIfInBounds_toArray, List.set_cons_zero, List.set_cons_succ]
            refine wpAnyH_ready (rs := [16]) (by kernel_rfl) (by simp) ?_
            refine consL rfl (fun K hK => ?_) AllReadyH.nil
            refine step_appR Try.rowKeys rfl (.tmp 148) (.tmp 159) rfl (C + 1) R kv (keysV g R) rfl ?_ wd.heap.size 0 1 1 [keyV g R] rfl rfl ?_ (by intro u hu; cases hu with | head => rfl | tail _ h => cases h) (by unfold maxLen; omega) (by omega) ?_ ?_
            · exact ((HK.out.2.1.keep fun k hk => HO.out.block k (HK.out.2.1.lt hk).2)).alloc_ _
            · exact cells_newR wd [keyV g R] _
            · have := hCs; simp; omega
            intro v2 w2 hk2 hg2 hb2
            rw [← keysV_succ] at hk2
            refine hK.out _ _ (hHeld.grown hg2 (fun k hk => .inl (by rw [hk]; simp))) (fun hHeld => ?_)
            clear hK K
            try simp only [Act.put, List.setIfInBounds_toArray, List.set_cons_zero, List.set_cons_succ]
            have hC2 : Blk w2 C 67 #[kv, .slice (some ⟨h1, 0, none⟩) 256 256, .slice (some ⟨h2, 0, none⟩) 256 256] := by
              refine Blk.keep ((HK.out.1.below HO.out).alloc _) (hg2.block _ (by simp; omega) (fun e => ?_))
              have := (HK.out.2.1.lt e.symm).1
              omega
            have d0 : w2.cell? ⟨C, 0, none⟩ = some kv := by rw [hC2.cell 0]; rfl
            have d1 : w2.frozen? ⟨C, 0, none⟩ = false := hC2.frozen 0
            have H2 := Lib.hid (And.intro hk2 hC2)
            clear hk2 hg2 hb2 hC2 c0 f0
            refine wpAnyH_ready (rs := [17]) (by kernel_rfl) (by simp) ?_
            refine consL rfl (fun K hK => ?_) AllReadyH.nil
            go_simp
            refine hK.out _ _ hHeld (fun hHeld => ?_)
            clear hK K
            try simp only [Act.put, List.setIfInBounds_toArray, List.set_cons_zero, List.set_cons_succ]
            refine wpAnyH_ready (rs := [18]) (by kernel_rfl) (by simp) ?_
            refine consL rfl (fun K hK => ?_) AllReadyH.nil
            go_simp
            refine hK.out _ _ hHeld (fun hHeld => ?_)
            clear hK K
            try simp only [Act.put, List.setIfInBounds_toArray, List.set_cons_zero, List.set_cons_succ]
            refine wpAnyH_ready (rs := [19]) (by kernel_rfl) (by simp) ?_
            refine consL rfl (fun K hK => ?_) AllReadyH.nil
            obtain ⟨A3, n3, hv2, _⟩ := H2.out.1.form (by omega) (by omega)
            subst hv2
            go_simp
            refine hK.out _ _ (hHeld.setCell (.inl (by simp)) _) (fun hHeld => ?_)
            clear hK K
            try simp only [Act.put, List.setIfInBounds_toArray, List.set_cons_zero, List.set_cons_succ]
            refine wpAnyH_done (by kernel_rfl) ?_ _
            refine NoPanic.normal ?_
            have HH := Lib.hid hHeld
            clear hHeld d0 d1
            go_wp2_with fail
            have hne2 : (Value.slice (some ⟨A3, 0, none⟩) (R + 1) n3).ownBlock ≠ some C := fun e => by have := (H2.out.1.lt e).1; omega
            refine ⟨⟨R + 1, .slice (some ⟨A3, 0, none⟩) (R + 1) n3, by omega, by go_num, H2.out.2.set_ 0 _, H2.out.1.keep fun k hk => (Below.heap_setCell _ _ _ k (fun e => hne2 (by rw [hk, e]))), ?_⟩, by simp [intOf]; omega⟩
            exact below_turn HK.out.2.2 HH.out (fun t ht => by
                rcases List.mem_cons.1 ht with e | hm
                · omega
                · have := (HK.out.2.1.lt (show _ = some t by simpa using hm)).1; omega) (by have := HK.out.2.2.size; have := hCs; omega)
          · go_simp
            refine hK.out _ _ (hHeld.alloc _) (fun hHeld => ?_)
            clear hK K
            try simp only [Act.put, List.setIfInBounds_toArray, List.set_cons_zero, List.set_cons_succ]
            refine wpAnyH_ready (rs := [4]) (by kernel_rfl) (by simp) ?_
            refine consL rfl (fun K hK => ?_) AllReadyH.nil
            go_simp
            refine hK.out _ _ hHeld (fun hHeld => ?_)
            clear hK K
            try simp only [Act.put, List.setIfInBounds_toArray, List.set_cons_zero, List.set_cons_succ]
            refine wpAnyH_ready (rs := [16]) (by kernel_rfl) (by simp) ?_
            refine consL rfl (fun K hK => ?_) AllReadyH.nil
            refine step_appR Try.rowKeys rfl (.tmp 148) (.tmp 159) rfl (C + 1) R kv (keysV g R) rfl ?_ wd.heap.size 0 1 1 [keyV g R] rfl rfl ?_ (by intro u hu; cases hu with | head => rfl | tail _ h => cases h) (by unfold maxLen; omega) (by omega) ?_ ?_
            · exact ((HK.out.2.1.keep fun k hk => HO.out.block k (HK.out.2.1.lt hk).2)).alloc_ _
            · exact cells_newR wd [keyV g R] _
            · have := hCs; simp; omega
            intro v2 w2 hk2 hg2 hb2
            rw [← keysV_succ] at hk2
            refine hK.out _ _ (hHeld.grown hg2 (fun k hk => .inl (by rw [hk]; simp))) (fun hHeld => ?_)
            clear hK K
            try simp only [Act.put, List.setIfInBounds_toArray, List.set_cons_zero, List.set_cons_succ]
            have hC2 : Blk w2 C 67 #[kv, .slice (some ⟨h1, 0, none⟩) 256 256, .slice (some ⟨h2, 0, none⟩) 256 256] := by
              refine Blk.keep ((HK.out.1.below HO.out).alloc _) (hg2.block _ (by simp; omega) (fun e => ?_))
              have := (HK.out.2.1.lt e.symm).1
              omega
            have d0 : w2.cell? ⟨C, 0, none⟩ = some kv := by rw [hC2.cell 0]; rfl
            have d1 : w2.frozen? ⟨C, 0, none⟩ = false := hC2.frozen 0
            have H2 := Lib.hid (And.intro hk2 hC2)
            clear hk2 hg2 hb2 hC2 c0 f0
            refine wpAnyH_ready (rs := [17]) (by kernel_rfl) (by simp) ?_
            refine consL rfl (fun K hK => ?_) AllReadyH.nil
            go_simp
            refine hK.out _ _ hHeld (fun hHeld => ?_)
            clear hK K
            try simp only [Act.put, List.setIfInBounds_toArray, List.set_cons_zero, List.set_cons_succ]
            refine wpAnyH_ready (rs := [18]) (by kernel_rfl) (by simp) ?_
            refine consL rfl (fun K hK => ?_) AllReadyH.nil
            go_simp
            refine hK.out _ _ hHeld (fun hHeld => ?_)
            clear hK K
            try simp only [Act.put, List.setIfInBounds_toArray, List.set_cons_zero, List.set_cons_succ]
            refine wpAnyH_ready (rs := [19]) (by kernel_rfl) (by simp) ?_
            refine consL rfl (fun K hK => ?_) AllReadyH.nil
            obtain ⟨A3, n3, hv2, _⟩ := H2.out.1.form (by omega) (by omega)
            subst hv2
            go_simp
            refine hK.out _ _ (hHeld.setCell (.inl (by simp)) _) (fun hHeld => ?_)
            clear hK K
            try simp only [Act.put, List.setIfInBounds_toArray, List.set_cons_zero, List.set_cons_succ]
            refine wpAnyH_done (by kernel_rfl) ?_ _
            refine NoPanic.normal ?_
            have HH := Lib.hid hHeld
            clear hHeld d0 d1
            go_wp2_with fail
            have hne2 : (Value.slice (some ⟨A3, 0, none⟩) (R + 1) n3).ownBlock ≠ some C := fun e => by have := (H2.out.1.lt e).1; omega
            refine ⟨⟨R + 1, .slice (some ⟨A3, 0, none⟩) (R + 1) n3, by omega, by go_num, H2.out.2.set_ 0 _, H2.out.1.keep fun k hk => (Below.heap_setCell _ _ _ k (fun e => hne2 (by rw [hk, e]))), ?_⟩, by simp [intOf]; omega⟩
            exact below_turn HK.out.2.2 HH.out (fun t ht => by
                rcases List.mem_cons.1 ht with e | hm
                · omega
                · have := (HK.out.2.1.lt (show _ = some t by simpa using hm)).1; omega) (by have := HK.out.2.2.size; have := hCs; omega)
        · obtain rfl : R = n + 7 := by omega
          have s9 : ¬ ((n : Int) + 7 ≤ (n : Int) + 6) := by omega
          obtain ⟨kb, cq, rfl, k1, k2, k3, k4, k5⟩ := hK.form (by omega) (by omega)
          have hfin : RCip wr C kb (n + 7) cq h1 h2 (rks l) := by
            have hOf := HX.out.1.below (by rw [hCs]; exact hB)
            refine ⟨hC, k2, by have := HX.out.2.2.2.2.1; omega, by omega, by omega, k3, fun i hi => ⟨g, 16 * i, k5 i _ (keysV_at g _ i hi), ?_⟩, (HX.out.2.1.below (by rw [hCs]; exact hB)).rd, (HX.out.2.2.1.below (by rw [hCs]; exact hB)).rd⟩
            refine ⟨?_, Nat.le_refl _, by unfold maxLen; omega, .inr ⟨g, 16 * i, rfl, (hOf.lt (g := g) rfl).2, fun k x hx => ?_⟩⟩
            · unfold key; rw [List.length_take, List.length_drop, HX.out.2.2.2.2.1]; omega
            · refine hOf.cell (16 * i + k) x ?_
              unfold key at hx
              rw [List.getElem?_take] at hx
              split at hx
              · rwa [List.getElem?_drop] at hx
              · cases hx
          have hBf := HX.out.2.2.2.1.trans (hB.mono (by rw [← hCs]; exact HX.out.2.2.2.1.size))
          have HF := Lib.hid (And.intro hfin hBf)
          clear hfin hBf hC hK hB k1 k2 k3 k4 k5 hR hlt
          go_wp2_with fail
          go_ret
          exact ⟨C, kb, n + 7, cq, h1, h2, rfl, HF.out.1, HF.out.2⟩
end Go.Proofs.Ytiocmebcbhbcmaa
