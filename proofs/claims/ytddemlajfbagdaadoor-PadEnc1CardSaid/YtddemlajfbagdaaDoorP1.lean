/-
  Contract of (*hashes.Hash).sha1: a block is taken in.
-/
import Derived.Test.YtddemlajfbagdaaDoorP256
namespace Go.Proofs.YtddemlajfbagdaaDoor
open Go.RowKit
theorem mixTo_done {α : Type} (new old : List α) (n : Nat) (hn : n ≤ new.length) (h : ∀ i, n ≤ i → new[i]? = old[i]?) : mixTo new old n = new := by
  apply List.ext_getElem?
  intro i
  unfold mixTo
  have e : (new.take n).length = n := by rw [List.length_take]; omega
  rcases Nat.lt_or_ge i n with hi | hi
  · rw [List.getElem?_append_left (by omega), List.getElem?_take, if_pos hi]
  · rw [List.getElem?_append_right (by omega), e, List.getElem?_drop, h i hi]
    congr 1; omega
theorem rot32_still (x : UInt32) (k : Int) (n : Nat) (w : World) (hk : k % 32 = n) (h0 : 0 < n) :
    Calls Tryd.prog 90 #[U32 x, .int .i64 k] w fun e w'' => e = .returned (U32 (rotl32 x n)) ∧ w'' = w := (rot32_any x k n w hk h0).mono fun _ _ h => ⟨h.1, h.2.symm⟩

set_option maxRecDepth 100000 in
set_option maxHeartbeats 2000000 in
theorem sha1_any (d : Nat) (kind : Int) (hs : List UInt64) (wv : Value) (cnt : UInt64) (b off c : Nat) (p : List UInt8) (w : World) (h : Blk w d 94 (hcells kind hs wv cnt)) (h8 : hs.length = 8)
    (hp : At w b off p) (hpl : p.length = 64) (hc : 64 ≤ c) (hcm : c ≤ maxLen) :
    Calls Tryd.prog 85 #[.pointer (some ⟨d, 0, none⟩), .slice (some ⟨b, off, none⟩) 64 c] w fun e w' => e = .returned (.tuple #[]) ∧ Blk w' d 94 (hcells kind (take1 hs p) wv cnt) ∧ Turn [d] w w' := by
  unfold maxLen at hcm
  have HP := Lib.hid hp
  have HD := Lib.hid h
  have Hpl := Lib.hid hpl
  have H8 := Lib.hid h8
  clear hp h hpl h8
  have hal0 : ∀ w : World, (Instr.alloc 113 true (.tuple #[])).run Tryd.prog w = .ok (.pointer (some ⟨w.heap.size, 0, none⟩)) (w.alloc (.cells (part U32 (.int .u32 0) [] 80) 113)) := fun _ => by kernel_rfl
  have HAL := Lib.hid hal0
  clear hal0
  go_enter Tryd.func85, Tryd.ntmps85
  go_wp2_with (refine wpList_alloc_at rfl 113 rfl _ (HAL.out _) ?_)
  clear HAL
  have hb0 : Blk (w.alloc (.cells (part U32 (.int .u32 0) [] 80) 113)) w.heap.size 113 (part U32 (.int .u32 0) [] 80) := Blk.new w _ _
  have hT0 : Below w.heap.size w (w.alloc (.cells (part U32 (.int .u32 0) [] 80) 113)) := (Below.refl _ _).alloc (Nat.le_refl _) _
  change Code.wp _ _ _ _ (w.alloc (.cells (part U32 (.int .u32 0) [] 80) 113))
  generalize hw0 : w.alloc (.cells (part U32 (.int .u32 0) [] 80) 113) = w0 at *
  clear hw0
  go_loopw [17] (fun i wr => ∃ k : Nat, k ≤ 80 ∧ i = .int .i64 k ∧ Blk wr w.heap.size 113 (part U32 (.int .u32 0) (sched1 p k) 80) ∧ Below w.heap.size w wr) (fun i _ => 80 - (intOf i).toNat)
  case atStart => exact ⟨0, by omega, rfl, hb0, hT0⟩
  case round =>
    obtain ⟨k, hk, rfl, hB, hT⟩ := hrel
    clear hb0 hT0
    have hlk : (sched1 p k).length = k := schedTo_len _ _ _
    rcases Nat.lt_or_ge k 80 with hlt | hge
    · rcases Nat.lt_or_ge k 16 with h16 | h16
      · have hs := Lib.hid (show sched1 p (k + 1) = sched1 p k ++ [word32 p (4 * k)] by show _ ++ [_] = _; rw [if_pos (by omega)]; rfl)
        have ck := (hB.cell k).trans (part_next U32 (.int .u32 0) (sched1 p k) 80 k hlk hlt)
        have fk := hB.frozen k
        have hat := ((HP.out.keep hT.size (hT.block b HP.out.1)).drop (4 * k))
        have hG := Lib.hid (get32_any b (off + 4 * k) (64 - 4 * k) (c - 4 * k) (p.drop (4 * k)) wr hat (by rw [List.length_drop, Hpl.out]) (by omega))
        have HB := Lib.hid hB
        have HT := Lib.hid hT
        have Hlk := Lib.hid hlk
        have hki : (k : Int) < 16 := by omega
        have hw0 : word32 (p.drop (4 * k)) 0 = word32 p (4 * k) := by simp [word32, List.getD]
        rw [← hw0] at hs
        clear hB hT hlk hlt h16 hk hat hw0
        go_wp2_with fail
        refine hG.out.mono ?_
        rintro e w' ⟨rfl, nq, rfl⟩
        have ck : (wr.drewN nq).cell? ⟨w.heap.size, k, none⟩ = _ := ck
        have fk : (wr.drewN nq).frozen? ⟨w.heap.size, k, none⟩ = false := fk
        go_wp2_with fail
        go_roundw
        case rel =>
          refine ⟨k + 1, by omega, by go_num, ?_, ?_⟩
          · rw [hs.out]
            have := (HB.out.drewN nq).set_ k (U32 (word32 (p.drop (4 * k)) 0))
            rw [part_setk _ _ _ _ _ _ Hlk.out (by omega)] at this
            exact this
          · exact (bel_drewN HT.out nq).setCell (Nat.le_refl _) _
        case measure => simp [intOf]; omega
      · have hs := Lib.hid (show sched1 p (k + 1) = sched1 p k ++ [next1 (sched1 p k) k] by show _ ++ [_] = _; rw [if_neg (by omega)]; rfl)
        have c16 := (hB.cell (k - 16)).trans (part_getD _ _ _ _ _ 0 (by omega))
        have c14 := (hB.cell (k - 14)).trans (part_getD _ _ _ _ _ 0 (by omega))
        have c8 := (hB.cell (k - 8)).trans (part_getD _ _ _ _ _ 0 (by omega))
        have c3 := (hB.cell (k - 3)).trans (part_getD _ _ _ _ _ 0 (by omega))
        have ck := (hB.cell k).trans (part_next U32 (.int .u32 0) (sched1 p k) 80 k hlk hlt)
        have fk := hB.frozen k
        have HB := Lib.hid hB
        have HT := Lib.hid hT
        unfold next1 at hs
        generalize (sched1 p k).getD (k - 16) 0 = x16 at *
        generalize (sched1 p k).getD (k - 14) 0 = x14 at *
        generalize (sched1 p k).getD (k - 8) 0 = x8 at *
        generalize (sched1 p k).getD (k - 3) 0 = x3 at *
        have hki : (k : Int) < 80 := by omega
        have hk16 : (16 : Int) ≤ k := by omega
        have Hlk := Lib.hid hlk
        clear hB hT hlk hlt h16 hk
        go_wp2_with fail
        have g1 : IntKind.i64.wrap ((k : Int) - 16) = (k : Int) - 16 := IntWalk.i64_in _ (by omega)
        have g2 : ((k : Int) - 16).toNat = k - 16 := by omega
        have g3 : IntKind.i64.wrap ((k : Int) - 14) = (k : Int) - 14 := IntWalk.i64_in _ (by omega)
        have g4 : ((k : Int) - 14).toNat = k - 14 := by omega
        have g5 : IntKind.i64.wrap ((k : Int) - 8) = (k : Int) - 8 := IntWalk.i64_in _ (by omega)
        have g6 : ((k : Int) - 8).toNat = k - 8 := by omega
        have g7 : IntKind.i64.wrap ((k : Int) - 3) = (k : Int) - 3 := IntWalk.i64_in _ (by omega)
        have g8 : ((k : Int) - 3).toNat = k - 3 := by omega
        have q1 : (14 : Int) ≤ k := by omega
        have q2 : (8 : Int) ≤ k := by omega
        have q3 : (3 : Int) ≤ k := by omega
        have q4 : (k : Int) - 16 < 80 := by omega
        have q5 : (k : Int) - 14 < 80 := by omega
        have q6 : (k : Int) - 8 < 80 := by omega
        have q7 : (k : Int) - 3 < 80 := by omega
        go_still_tail 22, (by kernel_rfl)
        still_call (rot32_still (x3 ^^^ x8 ^^^ x14 ^^^ x16) 1 1 _ (by decide) (by decide))
        repeat still_step
        try refine wpStill_nil ?_
        go_wp2_with fail
        go_roundw
        case rel =>
          refine ⟨k + 1, by omega, by go_num, ?_, ?_⟩
          · rw [hs.out]
            have := (HB.out.set_ k (U32 (rotl32 (x3 ^^^ x8 ^^^ x14 ^^^ x16) 1))).drew
            rw [part_setk _ _ _ _ _ _ Hlk.out (by omega)] at this
            exact this
          · exact (HT.out.setCell (Nat.le_refl _) _).drew
        case measure => simp [intOf]; omega
    · obtain rfl : k = 80 := by omega
      have hD0 := HD.out.below hT
      obtain ⟨h0, h1, h2, h3, h4, rest, hhs⟩ : ∃ a b c d e r, hs = a :: b :: c :: d :: e :: r := by
        have h8 := H8.out
        match hs, h8 with
        | [a, b, c, d, e, f, g, h], _ => exact ⟨_, _, _, _, _, _, rfl⟩
      have d0 := (hD0.cell (1 + 0)).trans (hcells_get kind hs wv cnt 0 h0 (by rw [hhs]; rfl))
      have d1 := (hD0.cell (1 + 1)).trans (hcells_get kind hs wv cnt 1 h1 (by rw [hhs]; rfl))
      have d2 := (hD0.cell (1 + 2)).trans (hcells_get kind hs wv cnt 2 h2 (by rw [hhs]; rfl))
      have d3 := (hD0.cell (1 + 3)).trans (hcells_get kind hs wv cnt 3 h3 (by rw [hhs]; rfl))
      have d4 := (hD0.cell (1 + 4)).trans (hcells_get kind hs wv cnt 4 h4 (by rw [hhs]; rfl))
      have hv5 : v5 hs = ⟨h0.toUInt32, h1.toUInt32, h2.toUInt32, h3.toUInt32, h4.toUInt32⟩ := by rw [hhs]; rfl
      rw [part_full _ _ _ _ hlk] at hB
      have hi80 : (Tryd.prog.info? 113).map (·.size) = some ((sched1 p 80).map U32).toArray.size := by rw [List.size_toArray, List.length_map, hlk]; kernel_rfl
      have HT := Lib.hid hT
      have HB := Lib.hid hB
      have HD0 := Lib.hid hD0
      have HV := Lib.hid (And.intro hv5 (And.intro hhs hi80))
      have hq : ¬ ((80 : Int) < 80) := by omega
      clear hT hB hlk hk hge hD0 hv5 hhs hi80
      go_wp2_with fail
      go_quiet (fail)
      clear d0 d1 d2 d3 d4
      replace HB := Lib.hid (HB.out.drewN nq)
      replace HT := Lib.hid (bel_drewN HT.out nq)
      replace HD0 := Lib.hid (HD0.out.drewN nq)
      generalize wr.drewN nq = w1 at *
      clear wr
      go_wp2_with (refine wpList_load_arr rfl 113 (.tmp 4) rfl w.heap.size 113 _ HB.out rfl _ Tryd.underlying113 rfl HV.out.2.2 ?_)
      have hsll : (sched1 p 80).length = 80 := schedTo_len _ _ _
      generalize hsl : sched1 p 80 = sl at *
      have Hsl := Lib.hid hsl
      clear hsl
      obtain ⟨AW, hAW⟩ : ∃ AW, (sl.map U32).toArray = AW := ⟨_, rfl⟩
      have hAx : ∀ k, k < 80 → AW[k]? = some (U32 (sl.getD k 0)) := fun k hk => by rw [← hAW]; simp [List.getD, show k < sl.length by omega]
      have HAx := Lib.hid hAx
      rw [hAW]
      have hv0 : run1 sl (v5 hs) 0 = ⟨h0.toUInt32, h1.toUInt32, h2.toUInt32, h3.toUInt32, h4.toUInt32⟩ := HV.out.1
      have HV0 := Lib.hid hv0
      clear hAW hAx hv0
      go_loop [6, 7, 8, 9, 10, 83] (fun a b c d e i => ∃ k : Nat, k ≤ 80 ∧ i = .int .i64 k ∧ a = U32 (run1 sl (v5 hs) k).a ∧ b = U32 (run1 sl (v5 hs) k).b ∧ c = U32 (run1 sl (v5 hs) k).c ∧ d = U32 (run1 sl (v5 hs) k).d ∧ e = U32 (run1 sl (v5 hs) k).e) (fun _ _ _ _ _ i => 80 - (intOf i).toNat)
      case atStart => exact ⟨0, by omega, rfl, by rw [HV0.out], by rw [HV0.out], by rw [HV0.out], by rw [HV0.out], by rw [HV0.out]⟩
      case round =>
        obtain ⟨k, hk, rfl, rfl, rfl, rfl, rfl, rfl⟩ := hrel
        rcases Nat.lt_or_ge k 80 with hlt | hge
        · --ROUND
          have hix := fun w => index_arr (t := 113) (q := .i64) Tryd.underlying113 Tryd.underlying75 (by kernel_rfl) hlt (HAx.out k hlt) w
          have hsc := Lib.hid (show run1 sl (v5 hs) (k + 1) = step1 k (run1 sl (v5 hs) k) (sl.getD k 0) from rfl)
          generalize sl.getD k 0 = x at *
          generalize run1 sl (v5 hs) k = V at *
          obtain ⟨va, vb, vc, vd, ve⟩ := V
          have hki : (k : Int) < 80 := by omega
          have hk0 : (0 : Int) ≤ k := by omega
          have H4 : k / 20 = 0 ∨ k / 20 = 1 ∨ k / 20 = 2 ∨ k / 20 = 3 := by omega
          clear hlt hk
          rcases H4 with h20 | h20 | h20 | h20
          all_goals
            have e0 : ((k : Int) / 20 == 0) = (k / 20 == 0) := by rw [Bool.eq_iff_iff]; simp; omega
            have e1 : ((k : Int) / 20 == 1) = (k / 20 == 1) := by rw [Bool.eq_iff_iff]; simp; omega
            have e2 : ((k : Int) / 20 == 2) = (k / 20 == 2) := by rw [Bool.eq_iff_iff]; simp; omega
            rw [h20] at e0 e1 e2
            simp only [Nat.reduceBEq] at e0 e1 e2
            have H20 := Lib.hid h20
            clear h20
            go_wp2_with fail
            refine (rot32_any _ _ 5 _ (by decide) (by decide)).mono ?_
            rintro e w' ⟨rfl, rfl⟩
            go_wp2_with fail
            refine (rot32_any _ _ 30 _ (by decide) (by decide)).mono ?_
            rintro e w' ⟨rfl, rfl⟩
            go_wp2_with fail
            go_round
            case rel =>
              refine ⟨k + 1, by omega, by go_num, ?_, ?_, ?_, ?_, ?_⟩ <;> rw [hsc.out] <;> simp only [step1, f1, g1, H20.out] <;> rfl
            case measure => simp [intOf]; omega
        · --AFTER
          obtain rfl : k = 80 := by omega
          have hq : ¬ ((80 : Int) < 80) := by omega
          clear hk hge HAx HV0
          have hnl8 : (take1 hs p).length = 8 := take1_len hs p H8.out
          have hout : out1 hs p = (run1 sl (v5 hs) 80).list := by unfold out1; rw [Hsl.out]
          have hget : ∀ k x, k < 5 → hs[k]? = some x → ∃ y, (run1 sl (v5 hs) 80).list[k]? = some y ∧ (take1 hs p)[k]? = some (x.toUInt32 + y).toUInt64 := by
            intro k x hk hx
            obtain ⟨y, hy⟩ : ∃ y, (run1 sl (v5 hs) 80).list[k]? = some y := ⟨_, List.getElem?_eq_getElem (by rw [V5.list_len]; exact hk)⟩
            exact ⟨y, hy, take1_get hs p k x y H8.out hk hx (by rw [hout]; exact hy)⟩
          have h5 : ∀ k, 5 ≤ k → (take1 hs p)[k]? = hs[k]? := fun k hk => take1_ge hs p k H8.out hk
          clear hout
          generalize run1 sl (v5 hs) 80 = V at *
          obtain ⟨va, vb, vc, vd, ve⟩ := V
          have HG := Lib.hid (And.intro hnl8 (And.intro hget h5))
          clear hnl8 hget h5
          go_wp2_with fail
          have hbn : Blk (w1.alloc (.cells #[U32 va, U32 vb, U32 vc, U32 vd, U32 ve] 75)) w1.heap.size 75 #[U32 va, U32 vb, U32 vc, U32 vd, U32 ve] := Blk.new w1 _ _
          have hdl : d < w1.heap.size := HD0.out.lt
          have hDn := HD0.out.alloc (.cells #[U32 va, U32 vb, U32 vc, U32 vd, U32 ve] 75)
          have hTn := Turn.of_below [d] (HT.out.trans (((Below.refl w1.heap.size w1).alloc (Nat.le_refl _) (.cells #[U32 va, U32 vb, U32 vc, U32 vd, U32 ve] 75)).mono HT.out.size))
          revert hbn hDn hTn
          generalize w1.alloc (.cells #[U32 va, U32 vb, U32 vc, U32 vd, U32 ve] 75) = w2
          generalize w1.heap.size = gn at *
          intro hbn hDn hTn
          have hne : gn ≠ d := by omega
          have Hne := Lib.hid hne
          clear HB HT HD0 hne hdl
          go_loopw [142] (fun i wr => ∃ k : Nat, k ≤ 5 ∧ i = .int .i64 k ∧ Blk wr gn 75 #[U32 va, U32 vb, U32 vc, U32 vd, U32 ve] ∧ Blk wr d 94 (hcells kind (mixTo (take1 hs p) hs k) wv cnt) ∧ Turn [d] w wr) (fun i _ => 5 - (intOf i).toNat)
          case atStart => exact ⟨0, by omega, rfl, hbn, by simpa [mixTo] using hDn, hTn⟩
          case round =>
            obtain ⟨k, hk, rfl, hB, hD, hT⟩ := hrel
            clear hbn hDn hTn
            rcases Nat.lt_or_ge k 5 with hlt | hge
            · obtain ⟨x, hx⟩ : ∃ x, hs[k]? = some x := ⟨_, List.getElem?_eq_getElem (by rw [H8.out]; omega)⟩
              obtain ⟨y, hy, hmx⟩ := HG.out.2.1 k x hlt hx
              have hm : (mixTo (take1 hs p) hs k)[k]? = some x := (mixTo_get _ _ _ (by rw [HG.out.1]; omega)).trans hx
              have cy : wr.cell? ⟨gn, k, none⟩ = some (U32 y) := by
                rw [hB.cell, show (#[U32 va, U32 vb, U32 vc, U32 vd, U32 ve] : Array Value) = (List.map U32 (V5.list ⟨va, vb, vc, vd, ve⟩)).toArray from rfl, List.getElem?_toArray, List.getElem?_map, hy]; rfl
              have cx := (hD.cell (1 + k)).trans (hcells_get kind _ wv cnt k x hm)
              have fx := hD.frozen (1 + k)
              have hki : (k : Int) < 5 := by omega
              have hk0 : (0 : Int) ≤ k := by omega
              have hk8 : (k : Int) < 8 := by omega
              have HM := Lib.hid (And.intro hmx hx)
              have HB := Lib.hid hB
              have HD := Lib.hid hD
              have HT := Lib.hid hT
              clear hB hT hD hlt hk hx hy hm hmx
              go_wp2_with fail
              go_still_tail 15, (by kernel_rfl)
              go_wp2_with fail
              obtain ⟨hmx, hx⟩ := HM.out
              refine ⟨⟨k + 1, by omega, by go_num, (HB.out.far (p := ⟨d, 1 + k, none⟩) Hne.out _).drew, ?_, (HT.out.setCell (.inl (by simp)) _).drew⟩, by simp [intOf]; omega⟩
              have hz : (x % 4294967296 + y.toUInt64) % 4294967296 = (x.toUInt32 + y).toUInt64 := by simp
              rw [hz]
              have := (HD.out.set_ (1 + k) (U64 (x.toUInt32 + y).toUInt64)).drew
              rw [hcells_set _ _ _ _ _ _ (by rw [mixTo_len _ _ _ (by rw [HG.out.1]; omega) (by rw [HG.out.1, H8.out]; omega), H8.out]; omega), mixTo_set _ _ _ _ hmx (by rw [H8.out]; omega)] at this
              exact this
            · obtain rfl : k = 5 := by omega
              have hq : ¬ ((5 : Int) < 5) := by omega
              have HD := Lib.hid hD
              have HT := Lib.hid hT
              clear hB hT hD
              go_wp2_with fail
              go_end0
              refine ⟨rfl, ?_, HT.out⟩
              have := HD.out
              have e : mixTo (take1 hs p) hs 5 = take1 hs p := mixTo_done _ _ _ (by rw [HG.out.1]; omega) HG.out.2.2
              rw [e] at this
              exact this
end Go.Proofs.YtddemlajfbagdaaDoor
