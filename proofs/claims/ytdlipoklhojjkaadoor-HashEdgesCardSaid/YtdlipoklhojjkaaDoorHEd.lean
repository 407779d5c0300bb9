/-
  The law HashEdges, walked: messages of all lengths about a block's end, in two parts.
-/
import Derived.Test.YtdlipoklhojjkaaDoorBeg3
import Derived.Test.YtdlipoklhojjkaaDoorShort
import Derived.Test.YtdlipoklhojjkaaDoorLift
import Derived.Deep.DeepCutAuto
namespace Go.Proofs.YtdlipoklhojjkaaDoor
open Go.RowKit

theorem addI_B (t : TypeId) (x : UInt8) (n : Int) (h0 : 0 ≤ n) : binOp .add t (B x) (.int .u8 n) = pure (B (x + UInt8.ofNat n.toNat)) := by
  obtain ⟨m, rfl⟩ := Int.eq_ofNat_of_zero_le h0
  show (pure (.int .u8 (IntKind.u8.wrap (x.toNat + m))) : Sem Value) = _
  rw [wrap_u8, ← B_eq]
  rw [UInt8.toNat_add, Int.toNat_natCast, UInt8.toNat_ofNat']; omega
/-- The message of length n. -/
def edge (x : UInt8) (n : Nat) : List UInt8 := (List.range n).map fun i => x + UInt8.ofNat i
theorem edge_len (x : UInt8) (n : Nat) : (edge x n).length = n := by simp [edge]
theorem edge_get (x : UInt8) (n i : Nat) (h : i < n) : (edge x n)[i]? = some (x + UInt8.ofNat i) := by simp [edge, h]
set_option maxHeartbeats 2000000 in
theorem hashEdges_walk (kind : Int) (x : UInt8) (k : Int) (w : World) (hK : KAt w) (hlo : -9223372036854775808 ≤ k) (hhi : k ≤ 9223372036854775807) :
    Calls Tryd.prog 7 #[.int .i64 kind, B x, .int .i64 k] w (LawRes w) := by
  by_cases hk : 1 ≤ kind ∧ kind ≤ 5
  · have hbc := bl_cases kind hk
    have hblk : hblock kind = ((bl kind : Nat) : Int) := by rcases hbc with ⟨h1, h2⟩ | ⟨h1, h2⟩ <;> rw [h1, h2] <;> rfl
    have hB64 : 64 ≤ bl kind ∧ bl kind ≤ 128 := by rcases hbc with ⟨h1, h2⟩ | ⟨h1, h2⟩ <;> omega
    have HBl := Lib.hid (rblock_any kind)
    rw [hblk] at HBl
    generalize bl kind = BL at *
    have HH := Lib.hid (And.intro hk (And.intro hK hB64))
    have hB0 : (((BL : Nat) : Int) == 0) = false := by rw [beq_eq_false_iff_ne]; omega
    have hBi : (BL : Int) ≤ 128 := by omega
    have hBi2 : (64 : Int) ≤ BL := by omega
    have HKB := Lib.hid (And.intro hlo hhi)
    have hne := neHash
    clear hk hK hB64 hblk hbc hlo hhi
    go_enter Tryd.func7, Tryd.ntmps7
    go_upto_if 20 with (first
      | (go_at_call 11; refine (begun_any _ HH.out.2.1).mono ?_; rintro e wx ⟨rfl, hbx⟩; have HB := Lib.hid hbx; clear hbx)
      | (go_at_call 18; refine (HBl.out _).mono ?_; rintro e w' ⟨rfl, rfl⟩))
    go_cut [2] (fun v wy => ∃ K : Nat, v = .int .i64 K ∧ Below w.heap.size w wy)
    case first =>
      have hlo := HKB.out.1
      have hhi := HKB.out.2
      rcases Int.lt_or_le k 0 with h0 | h0
      · have g1 : IntKind.i64.wrap (k + 1) = k + 1 := IntWalk.i64_in _ (by omega)
        have g2 : IntKind.i64.wrap (-(k + 1)) = -(k + 1) := IntWalk.i64_in _ (by omega)
        have g3 : 0 ≤ -(k + 1) := by omega
        clear hlo hhi
        go_wp2
        go_meet
        case rel => exact ⟨(-(k + 1)).toNat, by rw [Int.toNat_of_nonneg g3], HB.out⟩
      · clear hlo hhi
        have h0' : ¬ (k < 0) := by omega
        go_wp2
        go_meet
        case rel => exact ⟨k.toNat, by rw [Int.toNat_of_nonneg h0], HB.out⟩
    case rest =>
      obtain ⟨K, rfl, hby⟩ := hcut
      clear HB
      generalize wc = wy at *
      go_wp2_with fail
      go_loopw [9] (fun v wr => ∃ j : Nat, j ≤ 23 ∧ v = .int .i64 ((BL - 20 + j : Nat) : Int) ∧ Below w.heap.size w wr) (fun v _ => (BL + 3 - intOf v).toNat)
      case atStart => exact ⟨0, by omega, by rw [show ((BL - 20 + 0 : Nat) : Int) = (BL : Int) - 20 from by omega], hby⟩
      case round =>
        obtain ⟨j, hj, rfl, hB⟩ := hrel
        obtain ⟨L, hL⟩ : ∃ L, BL - 20 + j = L := ⟨_, rfl⟩
        rw [hL]
        have hLi : (L : Int) ≤ BL + 3 := by omega
        have hL0 : (44 : Int) ≤ L := by omega
        rcases Nat.lt_or_ge j 23 with hlt | hge
        · have hLt : (L : Int) ≤ (BL : Int) + 2 := by omega
          have hmk := Tryd.prog_make L (by omega)
          have HL := Lib.hid (And.intro hL (And.intro hB hj))
          have Hlt := Lib.hid hlt
          clear hL hB hj hlt hby
          generalize wr = wo at *
          go_wp2_with fail
          have hO0 : Own (wo.alloc (.cells (madeCells #[.int .u8 0] L) 5)) wo.heap.size (.slice (some ⟨wo.heap.size, 0, none⟩) L L) (mixTo (edge x L) (zs L) 0) := by
            have := Own.made wo L (by unfold maxLen; omega)
            simpa [mixTo] using this
          have hT0 : Below wo.heap.size wo (wo.alloc (.cells (madeCells #[.int .u8 0] L) 5)) := (Below.refl _ _).alloc (Nat.le_refl _) _
          have HT0 := Lib.hid (And.intro hO0 hT0)
          clear hO0 hT0 hmk
          go_loopw [11] (fun i wz => ∃ t : Nat, t ≤ L ∧ i = .int .i64 t ∧ Own wz wo.heap.size (.slice (some ⟨wo.heap.size, 0, none⟩) L L) (mixTo (edge x L) (zs L) t) ∧ Below wo.heap.size wo wz) (fun i _ => L - (intOf i).toNat)
          case atStart => exact ⟨0, by omega, rfl, HT0.out.1, HT0.out.2⟩
          case round =>
            obtain ⟨t, ht, rfl, hO, hT⟩ := hrel
            rcases Nat.lt_or_ge t L with htl | htl
            · have hti : (t : Int) < L := by omega
              have ht0 : (0 : Int) ≤ t := by omega
              have ht256 : (t : Int) < 256 := by omega
              have ct := hO.cell t 0 (by rw [mixTo_get _ _ _ (by rw [edge_len]; omega)]; simp [zs, htl])
              have ft := hO.frozen t
              have h1 := hO.set_ t (x + UInt8.ofNat t) htl
              rw [mixTo_set _ _ _ _ (edge_get x L t htl) (by rw [zs_len]; exact htl)] at h1
              have h2 := hT.setCell (p := ⟨wo.heap.size, t, none⟩) (Nat.le_refl _) (B (x + UInt8.ofNat t))
              have hadd := addI_B 5 x (t : Int) ht0
              rw [Int.toNat_natCast] at hadd
              have H1 := Lib.hid (And.intro h1 h2)
              clear hO hT h1 h2 htl ht
              go_wp2_with fail
              refine ⟨⟨t + 1, by omega, by go_num, H1.out.1, H1.out.2⟩, by simp [intOf]; omega⟩
            · obtain rfl : t = L := by omega
              have hq : ¬ ((t : Int) < t) := by omega
              have e1 : mixTo (edge x t) (zs t) t = edge x t := by unfold mixTo; rw [List.take_of_length_le (by rw [edge_len]; omega), List.drop_eq_nil_of_le (by rw [zs_len]; omega), List.append_nil]
              rw [e1] at hO
              generalize wr = wz at *
              have hbz : Below w.heap.size w wz := HL.out.2.1.trans (hT.mono HL.out.2.1.size)
              have hKz := HH.out.2.1.below hbz
              obtain ⟨r, hr⟩ : ∃ r, K % (t + 1) = r := ⟨_, rfl⟩
              have hrt : r ≤ t := by have := Nat.mod_lt K (show 0 < t + 1 by omega); omega
              have hri : (K : Int) % ((t : Int) + 1) = (r : Int) := by rw [← hr]; push_cast; rfl
              have hsA := slice_to (some ⟨wo.heap.size, 0, none⟩) t t r (fun ad h => by cases h; rfl) hrt
              obtain ⟨A9, n9, c9, hn9, hsB, hr9, hA9⟩ := hO.rd.cut_ex2 hrt
              have hrA := hO.rd.front (k := r) hrt
              have hwlt : wo.heap.size < wz.heap.size := (hO.lt (g := wo.heap.size) rfl).2
              have H1 := Lib.hid (And.intro hO (And.intro hbz (And.intro hKz (And.intro hr9 (And.intro hrA (And.intro hwlt hn9))))))
              have Hr := Lib.hid hr
              have HA9 := Lib.hid hA9
              clear hA9
              clear hO hT hbz hKz hr9 hrA hwlt hn9 hr e1 htl ht HT0
              go_wp2_with (go_at_call 19; refine (new_made kind _ HH.out.1 H1.out.2.2.1).mono ?_; rintro e w1 ⟨d, rfl, hM1⟩)
              refine (write_made wz w1 w1 d kind _ _ _ _ _ ((edge x t).take r) hM1 (Old.refl _) (H1.out.2.2.2.2.1.below hM1.below) (by simp [HSt.start, edge]; omega) H1.out.2.2.1 (fun ad had => .inl (by cases had; exact H1.out.2.2.2.2.2.1))).mono ?_
              rintro e w2 ⟨rfl, wv2, hM2, _, _⟩
              clear hM1
              go_wp2_with fail
              refine (write_made wz w2 w2 d kind _ _ _ _ _ ((edge x t).drop r) hM2 (Old.refl _) (H1.out.2.2.2.1.below hM2.below) (by have h : (HSt.write kind (HSt.start kind) ((edge x t).take r)).wait.length < 128 := rest_len kind _ HH.out.1; simp only [List.length_drop, edge_len]; omega) H1.out.2.2.1 (fun ad had => .inl (by obtain ⟨a0, ha0, hb0⟩ := HA9.out ad had; cases ha0; rw [hb0]; exact H1.out.2.2.2.2.2.1))).mono ?_
              rintro e w3 ⟨rfl, wv3, hM3, _, _⟩
              clear hM2
              have hsum : (((HSt.start kind).write kind ((edge x t).take r)).write kind ((edge x t).drop r)).sum kind = rof kind (edge x t) := by
                have h1 := writes_rof kind HH.out.1 [(edge x t).take r, (edge x t).drop r] (by simp [edge]; omega)
                rw [show ([(edge x t).take r, (edge x t).drop r] : List (List UInt8)).flatten = edge x t by simp] at h1
                exact h1
              have hre := H1.out.1.rd.below hM3.below
              have hle := edge_len x t
              generalize hlr : rof kind (edge x t) = lr at *
              have Hlr := Lib.hid (And.intro hlr hle)
              have hwt3 : (((HSt.start kind).write kind ((edge x t).take r)).write kind ((edge x t).drop r)).wait.length < 128 := rest_len kind _ HH.out.1
              have H3 := Lib.hid (And.intro hM3 (And.intro hsum (And.intro hre hwt3)))
              clear hM3 hsum hre hlr hwt3 hle
              go_wp2_with fail
              refine region_old (by kernel_rfl) (fun wd hHeld hSz => ?_)
              have HSz := Lib.hid hSz
              clear hSz
              refine takeL (i := 0) (v := ?_) rfl (by kernel_rfl) (by kernel_rfl) (by kernel_rfl) (fun _ _ _ h => h) (Or.inl ⟨by rfl, ?_⟩) hHeld ?_
              rotate_left
              focus (intro wq hSw; clear hSw; go_simp; try with_reducible rfl)
              try simp only [Act.put, List.setIfInBounds_toArray, List.set_cons_zero, List.set_cons_succ]
              refine takeL (i := 3) (v := ?_) rfl (by kernel_rfl) (by kernel_rfl) (by kernel_rfl) (fun _ _ _ h => h) (Or.inl ⟨by rfl, ?_⟩) hHeld ?_
              rotate_left
              focus (intro wq hSw; clear hSw; go_simp; try with_reducible rfl)
              try simp only [Act.put, List.setIfInBounds_toArray, List.set_cons_zero, List.set_cons_succ]
              refine takeL (i := 4) (v := ?_) rfl (by kernel_rfl) (by kernel_rfl) (by kernel_rfl) (fun _ _ _ h => h) (Or.inl ⟨by rfl, ?_⟩) hHeld ?_
              rotate_left
              focus (intro wq hSw; clear hSw; go_simp; try with_reducible rfl)
              try simp only [Act.put, List.setIfInBounds_toArray, List.set_cons_zero, List.set_cons_succ]
              refine wpAnyH_ready (rs := [1]) (by kernel_rfl) (by simp) ?_
              refine consL rfl (fun K hK => ?_) AllReadyH.nil
              go_simp
              refine (sum_made wz wd d kind _ wv3 (H3.out.1.later hHeld) (by have := H3.out.2.2.2; omega) H1.out.2.2.1).mono ?_
              rintro e w4 ⟨A4, n4, c4, rfl, hO4, hb4⟩
              rw [H3.out.2.1] at hO4
              have hn4 := hO4.len
              have Hn4 := Lib.hid hn4
              clear hn4
              have hb4' : Old w3 w4 := hHeld.trans hb4
              clear hb4
              refine hK.out _ _ hb4' (fun hHeld => ?_)
              clear hK K
              try simp only [Act.put, List.setIfInBounds_toArray, List.set_cons_zero, List.set_cons_succ]
              refine wpAnyH_old (w1 := w4) hb4' (fun hHeld => ?_) (Old.refl _)
              refine takeL (i := 2) (v := ?_) rfl (by kernel_rfl) (by kernel_rfl) (by kernel_rfl) (fun _ _ _ h => h) (Or.inl ⟨by rfl, ?_⟩) hHeld ?_
              rotate_left
              focus (intro wq hSw; have hRun := hO4.rd.str_below hSw; clear hSw; go_simp; try with_reducible rfl)
              try simp only [Act.put, List.setIfInBounds_toArray, List.set_cons_zero, List.set_cons_succ]
              refine wpAnyH_ready (rs := [5]) (by kernel_rfl) (by simp) ?_
              refine consL rfl (fun K hK => ?_) AllReadyH.nil
              go_simp
              refine (rof_res_all kind _ t t (edge x t) w4 (H3.out.2.2.1.below hb4') (by rw [Hlr.out.2]; omega)).mono ?_
              rintro e w5 ⟨A5, n5, c5, rfl, hO5, hb5⟩
              rw [Hlr.out.1] at hO5
              have hb5' : Old w3 w5 := hb4'.trans hb5
              have hb45 : Old w4 w5 := hb5
              clear hb5
              refine hK.out _ _ hb45 (fun hHeld => ?_)
              clear hK K
              try simp only [Act.put, List.setIfInBounds_toArray, List.set_cons_zero, List.set_cons_succ]
              refine wpAnyH_old (w1 := w5) hb45 (fun hHeld => ?_) (Old.refl _)
              refine takeL (i := 6) (v := ?_) rfl (by kernel_rfl) (by kernel_rfl) (by kernel_rfl) (fun _ _ _ h => h) (Or.inl ⟨by rfl, ?_⟩) hHeld ?_
              rotate_left
              focus (intro wq hSw; have hRun := hO5.rd.str_below hSw; clear hSw; go_simp; try with_reducible rfl)
              try simp only [Act.put, List.setIfInBounds_toArray, List.set_cons_zero, List.set_cons_succ]
              refine takeL (i := 7) (v := ?_) rfl (by kernel_rfl) (by kernel_rfl) (by kernel_rfl) (fun _ _ _ h => h) (Or.inl ⟨by rfl, ?_⟩) hHeld ?_
              rotate_left
              focus (intro wq hSw; clear hSw; go_simp; try with_reducible rfl)
              try simp only [Act.put, List.setIfInBounds_toArray, List.set_cons_zero, List.set_cons_succ]
              refine wpAnyH_done (by kernel_rfl) ?_ _
              refine NoPanic.normal ?_
              simp only [Exit.then]
              have Hb5 := Lib.hid hb5'
              clear hb4' hb5' hHeld HSz hO5 hO4
              go_wp2_with fail
              go_roundw
              case rel => exact ⟨j + 1, by have := Hlt.out; omega, by rw [← HL.out.1]; go_num, (H1.out.2.1.trans (H3.out.1.below.mono H1.out.2.1.size)).trans (Below.mono Hb5.out (Nat.le_trans H1.out.2.1.size H3.out.1.below.size))⟩
              case measure => have := HL.out.1; have := Hlt.out; simp [intOf]; omega
        · have hLt : ¬ ((L : Int) ≤ (BL : Int) + 2) := by omega
          have HL := Lib.hid hB
          clear hB hby
          go_wp2_with fail
          go_ret
          exact ⟨rfl, HL.out⟩
  · have hz : hblock kind = 0 := by simp [hblock]; omega
    have HK := Lib.hid hK
    clear hK hk hlo hhi
    go_enter Tryd.func7, Tryd.ntmps7
    go_wp2_with (first
      | (go_at_call 11; refine (begun_any _ HK.out).mono ?_; rintro e wx ⟨rfl, hbx⟩; have HB := Lib.hid hbx; clear hbx)
      | (go_at_call 18; refine (rblock_any kind _).mono ?_; rintro e w' ⟨rfl, rfl⟩; rw [hz]))
    go_ret
    exact ⟨rfl, HB.out⟩
end Go.Proofs.YtdlipoklhojjkaaDoor
