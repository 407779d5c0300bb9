/-
  Contract of (*hashes.Hash).sha512: a block is taken in.
  Contracts of hashes.Size, Block, start, New, take.
  A drawn region whose operations write to known blocks; a copy as a region's step.
-/
import Derived.Test.YtddemlajfbagdaaDoorP256
import Derived.Test.YtddemlajfbagdaaDoorP1
import Derived.Test.YtddemlajfbagdaaDoorZzApp2
import Derived.Test.YtddemlajfbagdaaDoorZzRot
namespace Go.Proofs.YtddemlajfbagdaaDoor
open Go.RowKit
theorem blk8L {w : World} {g : Nat} {t : TypeId} {a b c d e f h i : UInt64} (H : Blk w g t ((⟨a, b, c, d, e, f, h, i⟩ : V8 UInt64).list.map U64).toArray) :
    w.cell? ⟨g, 0, none⟩ = some (U64 a) ∧ w.cell? ⟨g, 1, none⟩ = some (U64 b) ∧ w.cell? ⟨g, 2, none⟩ = some (U64 c) ∧ w.cell? ⟨g, 3, none⟩ = some (U64 d) ∧ w.cell? ⟨g, 4, none⟩ = some (U64 e) ∧ w.cell? ⟨g, 5, none⟩ = some (U64 f) ∧ w.cell? ⟨g, 6, none⟩ = some (U64 h) ∧ w.cell? ⟨g, 7, none⟩ = some (U64 i) :=
  ⟨H.cell 0, H.cell 1, H.cell 2, H.cell 3, H.cell 4, H.cell 5, H.cell 6, H.cell 7⟩

set_option maxRecDepth 100000 in
set_option maxHeartbeats 2000000 in
theorem sha512_any (d : Nat) (kind : Int) (hs : List UInt64) (wv : Value) (cnt : UInt64) (b off c : Nat) (p : List UInt8) (w : World) (h : Blk w d 94 (hcells kind hs wv cnt)) (h8 : hs.length = 8)
    (hp : At w b off p) (hpl : p.length = 128) (hc : 128 ≤ c) (hcm : c ≤ maxLen) (hK : KAt w) (hd0 : d ≠ 1) :
    Calls Tryd.prog 87 #[.pointer (some ⟨d, 0, none⟩), .slice (some ⟨b, off, none⟩) 128 c] w fun e w' => e = .returned (.tuple #[]) ∧ Blk w' d 94 (hcells kind (take512 hs p) wv cnt) ∧ Turn [d] w w' := by
  have HK := Lib.hid hK
  have Hd0 := Lib.hid hd0
  clear hK hd0
  unfold maxLen at hcm
  have HP := Lib.hid hp
  have HD := Lib.hid h
  have Hpl := Lib.hid hpl
  have H8 := Lib.hid h8
  clear hp h hpl h8
  have hal0 : ∀ w : World, (Instr.alloc 117 true (.tuple #[])).run Tryd.prog w = .ok (.pointer (some ⟨w.heap.size, 0, none⟩)) (w.alloc (.cells (part U64 (.int .u64 0) [] 80) 117)) := fun _ => by kernel_rfl
  have HAL := Lib.hid hal0
  clear hal0
  go_enter Tryd.func87, Tryd.ntmps87
  go_wp2_with (refine wpList_alloc_at rfl 117 rfl _ (HAL.out _) ?_)
  have hb0 : Blk (w.alloc (.cells (part U64 (.int .u64 0) [] 80) 117)) w.heap.size 117 (part U64 (.int .u64 0) [] 80) := Blk.new w _ _
  have hT0 : Below w.heap.size w (w.alloc (.cells (part U64 (.int .u64 0) [] 80) 117)) := (Below.refl _ _).alloc (Nat.le_refl _) _
  clear HAL
  change Code.wp _ _ _ _ (w.alloc (.cells (part U64 (.int .u64 0) [] 80) 117))
  generalize hw0 : w.alloc (.cells (part U64 (.int .u64 0) [] 80) 117) = w0 at *
  clear hw0
  go_loopw [20] (fun i wr => ∃ k : Nat, k ≤ 80 ∧ i = .int .i64 k ∧ Blk wr w.heap.size 117 (part U64 (.int .u64 0) (sched512 p k) 80) ∧ Below w.heap.size w wr) (fun i _ => 80 - (intOf i).toNat)
  case atStart => exact ⟨0, by omega, rfl, hb0, hT0⟩
  case round =>
    obtain ⟨k, hk, rfl, hB, hT⟩ := hrel
    clear hb0 hT0
    have hlk : (sched512 p k).length = k := schedTo_len _ _ _
    rcases Nat.lt_or_ge k 80 with hlt | hge
    · rcases Nat.lt_or_ge k 16 with h16 | h16
      · have hs := Lib.hid (show sched512 p (k + 1) = sched512 p k ++ [word64 p (8 * k)] by show _ ++ [_] = _; rw [if_pos (by omega)]; rfl)
        have ck := (hB.cell k).trans (part_next U64 (.int .u64 0) (sched512 p k) 80 k hlk hlt)
        have fk := hB.frozen k
        have hat := ((HP.out.keep hT.size (hT.block b HP.out.1)).drop (8 * k))
        have hG := Lib.hid (get64_any b (off + 8 * k) (128 - 8 * k) (c - 8 * k) (p.drop (8 * k)) wr hat (by rw [List.length_drop, Hpl.out]) (by omega))
        have HB := Lib.hid hB
        have HT := Lib.hid hT
        have Hlk := Lib.hid hlk
        have hki : (k : Int) < 16 := by omega
        have hw0 : word64 (p.drop (8 * k)) 0 = word64 p (8 * k) := by simp [word64, List.getD]
        rw [← hw0] at hs
        clear hB hT hlk hlt h16 hk hat hw0
        go_wp2_with fail
        refine hG.out.mono ?_
        rintro e w' ⟨rfl, nq, rfl⟩
        have ck : (wr.drewN nq).cell? ⟨w.heap.size, k, none⟩ = _ := ck
        have fk : (wr.drewN nq).frozen? ⟨w.heap.size, k, none⟩ = false := fk
        go_wp2_with fail
        go_roundw
        case rel =>
          refine ⟨k + 1, by omega, by go_num, ?_, ?_⟩
          · rw [hs.out]
            have := (HB.out.drewN nq).set_ k (U64 (word64 (p.drop (8 * k)) 0))
            rw [part_setk _ _ _ _ _ _ Hlk.out (by omega)] at this
            exact this
          · exact (bel_drewN HT.out nq).setCell (Nat.le_refl _) _
        case measure => simp [intOf]; omega
      · have hs := Lib.hid (show sched512 p (k + 1) = sched512 p k ++ [next512 (sched512 p k) k] by show _ ++ [_] = _; rw [if_neg (by omega)]; rfl)
        have c16 := (hB.cell (k - 16)).trans (part_getD _ _ _ _ _ 0 (by omega))
        have c15 := (hB.cell (k - 15)).trans (part_getD _ _ _ _ _ 0 (by omega))
        have c7 := (hB.cell (k - 7)).trans (part_getD _ _ _ _ _ 0 (by omega))
        have c2 := (hB.cell (k - 2)).trans (part_getD _ _ _ _ _ 0 (by omega))
        have ck := (hB.cell k).trans (part_next U64 (.int .u64 0) (sched512 p k) 80 k hlk hlt)
        have fk := hB.frozen k
        have HB := Lib.hid hB
        have HT := Lib.hid hT
        unfold next512 at hs
        generalize (sched512 p k).getD (k - 16) 0 = x16 at *
        generalize (sched512 p k).getD (k - 15) 0 = x15 at *
        generalize (sched512 p k).getD (k - 7) 0 = x7 at *
        generalize (sched512 p k).getD (k - 2) 0 = x2 at *
        have hki : (k : Int) < 80 := by omega
        have hk16 : (16 : Int) ≤ k := by omega
        have Hlk := Lib.hid hlk
        clear hB hT hlk hlt h16 hk
        go_wp2_with fail
        go_quiet (fail)
        replace c16 : (wr.drewN nq).cell? ⟨w.heap.size, k - 16, none⟩ = _ := c16
        replace c7 : (wr.drewN nq).cell? ⟨w.heap.size, k - 7, none⟩ = _ := c7
        replace ck : (wr.drewN nq).cell? ⟨w.heap.size, k, none⟩ = _ := ck
        replace fk : (wr.drewN nq).frozen? ⟨w.heap.size, k, none⟩ = false := fk
        replace HB : Hid (Blk (wr.drewN nq) _ _ _) := HB
        replace HT : Hid (Below _ _ (wr.drewN nq)) := Lib.hid (bel_drewN HT.out nq)
        clear c15 c2
        generalize wr.drewN nq = w1 at *
        clear wr
        go_wp2_with fail
        refine (rot64_any _ _ 63 _ (by decide) (by decide)).mono ?_
        rintro e w' ⟨rfl, rfl⟩
        go_wp2_with fail
        refine (rot64_any _ _ 56 _ (by decide) (by decide)).mono ?_
        rintro e w' ⟨rfl, rfl⟩
        go_wp2_with fail
        refine (rot64_any _ _ 45 _ (by decide) (by decide)).mono ?_
        rintro e w' ⟨rfl, rfl⟩
        go_wp2_with fail
        refine (rot64_any _ _ 3 _ (by decide) (by decide)).mono ?_
        rintro e w' ⟨rfl, rfl⟩
        go_wp2_with fail
        have g1 : IntKind.i64.wrap ((k : Int) - 16) = (k : Int) - 16 := IntWalk.i64_in _ (by omega)
        have g2 : ((k : Int) - 16).toNat = k - 16 := by omega
        have g3 : IntKind.i64.wrap ((k : Int) - 7) = (k : Int) - 7 := IntWalk.i64_in _ (by omega)
        have g4 : ((k : Int) - 7).toNat = k - 7 := by omega
        have g5 : (7 : Int) ≤ k := by omega
        have g6 : (k : Int) - 16 < 80 := by omega
        have g7 : (k : Int) - 7 < 80 := by omega
        go_still_tail 15, (by kernel_rfl)
        go_wp2_with fail
        go_roundw
        case rel =>
          refine ⟨k + 1, by omega, by go_num, ?_, ?_⟩
          · rw [hs.out]
            have := (HB.out.set_ k (U64 (x16 + (rotl64 x15 63 ^^^ rotl64 x15 56 ^^^ x15 >>> 7) + x7 + (rotl64 x2 45 ^^^ rotl64 x2 3 ^^^ x2 >>> 6)))).drew
            rw [part_setk _ _ _ _ _ _ Hlk.out (by omega)] at this
            exact this
          · exact (HT.out.setCell (Nat.le_refl _) _).drew
        case measure => simp [intOf]; omega
    · obtain rfl : k = 80 := by omega
      have HT := Lib.hid hT
      have Hlk := Lib.hid hlk
      rw [part_full _ _ _ _ hlk] at hB
      have HB := Lib.hid hB
      clear hT hlk hB hk hge
      have hgv := HB.out.lt
      have hD0 := HD.out.below HT.out
      have hDm : wr.rangeAt d 1 (hs.map U64) := fun j v hv => by
        rw [List.getElem?_map] at hv
        obtain ⟨x, hx, rfl⟩ := Option.map_eq_some_iff.1 hv
        exact (hD0.cell (1 + j)).trans (hcells_get kind hs wv cnt j x hx)
      have hi8 : (Tryd.prog.info? 91).map (·.size) = some (hs.map U64).length := by rw [List.length_map, H8.out]; kernel_rfl
      have hnb : Blk (wr.alloc (.cells (List.replicate 8 (.int .u64 0)).toArray 91)) wr.heap.size 91 (List.replicate 8 (.int .u64 0)).toArray := Blk.new wr _ _
      have hal : (hs.map U64).all (·.oneCell') = true := by rw [List.all_map]; exact List.all_eq_true.2 fun _ _ => rfl
      have hsll : (sched512 p 80).length = 80 := schedTo_len _ _ _
      have hi80 : (Tryd.prog.info? 117).map (·.size) = some ((sched512 p 80).map U64).toArray.size := by rw [List.size_toArray, List.length_map, hsll]; kernel_rfl
      have HR0 := Lib.hid (And.intro hDm (And.intro hi8 (And.intro hnb (And.intro hal hi80))))
      clear hDm hi8 hnb hal hi80
      go_wp2_with (first
        | (refine wpList_load_mid rfl 91 _ rfl d 1 rfl (hs.map U64) _ HR0.out.1 Tryd.underlying91 rfl HR0.out.2.1 ?_)
        | (refine wpList_store_arr rfl 91 (.tmp 10) _ rfl wr.heap.size 91 _ (hs.map U64) HR0.out.2.2.1 rfl rfl HR0.out.2.1 (by rw [List.length_map, H8.out]; rfl) HR0.out.2.2.2.1 ?_; intro w3 hB3 hT3; have hS3 := Lib.hid ((HB.out.alloc (.cells (List.replicate 8 (.int .u64 0)).toArray 91)).turn hT3 (by simp; omega)))
        | (refine wpList_load_arr rfl 117 (.tmp 4) rfl w.heap.size 117 _ hS3.out rfl _ Tryd.underlying117 rfl HR0.out.2.2.2.2 ?_))
      have hTa := Turn.of_below [] ((Below.refl _ wr).alloc (Nat.le_refl _) (.cells (List.replicate 8 (.int .u64 0)).toArray 91))
      have hB34 : Below wr.heap.size wr w3 := below_turn hTa.below hT3 (by simp) (by simp)
      have hDr := Lib.hid (hD0.below hB34)
      have hKr := Lib.hid ((HK.out.below HT.out).below hB34)
      have HTr := Lib.hid (HT.out.trans (hB34.mono HT.out.size))
      have h0g : 1 < wr.heap.size := Nat.lt_trans HK.out.1 hgv
      have hgvw : w.heap.size < wr.heap.size := hgv
      have hdg : d < wr.heap.size := Nat.lt_of_lt_of_le HD.out.lt (Nat.le_of_lt hgv)
      clear HR0 hTa hB34 hT3 hS3 hD0 HT HB hgv
      generalize wr.heap.size = gv at *
      generalize hsl : sched512 p 80 = sl at *
      have Hsl := Lib.hid hsl
      clear hsl
      obtain ⟨AW, hAW⟩ : ∃ AW, (sl.map U64).toArray = AW := ⟨_, rfl⟩
      have hAx : ∀ k, k < 80 → AW[k]? = some (U64 (sl.getD k 0)) := fun k hk => by rw [← hAW]; simp [List.getD, show k < sl.length by omega]
      have HAx := Lib.hid hAx
      rw [hAW]
      clear hAW hAx
      have hvo : hs.map U64 = (run512 kTab sl (V8.of hs) 0).list.map U64 := by
        have h8 := H8.out
        match hs, h8 with
        | [_, _, _, _, _, _, _, _], _ => rfl
      rw [hvo] at hB3
      clear hvo
      generalize hv0 : V8.of hs = v0 at *
      have Hv0 := Lib.hid hv0
      clear hv0
      go_loopw [77] (fun i wr => ∃ k : Nat, k ≤ 80 ∧ i = .int .i64 k ∧ Blk wr gv 91 ((run512 kTab sl v0 k).list.map U64).toArray ∧ Below gv w3 wr) (fun i _ => 80 - (intOf i).toNat)
      case atStart => exact ⟨0, by omega, rfl, hB3, Below.refl _ _⟩
      case round =>
        obtain ⟨k, hk, rfl, hB, hT⟩ := hrel
        clear hB3
        rcases Nat.lt_or_ge k 80 with hlt | hge
        · --ROUND3
          have HKk := Lib.hid ((hKr.out.belowB hT h0g).at_ (k := k) (by omega))
          have hix := fun w => index_arr (t := 117) (q := .i64) Tryd.underlying117 Tryd.underlying78 (by kernel_rfl) hlt (HAx.out k hlt) w
          have hsc := Lib.hid (show run512 kTab sl v0 (k + 1) = step512 (run512 kTab sl v0 k) (kTab.getD k 0) (sl.getD k 0) from rfl)
          generalize kTab.getD k 0 = kk at *
          generalize sl.getD k 0 = x at *
          generalize run512 kTab sl v0 k = V at *
          obtain ⟨va, vb, vc, vd, ve, vf, vg, vh⟩ := V
          obtain ⟨c0, c1, c2, c3, c4, c5, c6, c7⟩ := blk8L hB
          have fz := hB.frozen
          have ck := HKk.out
          have hki : (k : Int) < 80 := by omega
          have hk80 : (k : Int) < 80 := by omega
          have hk0 : (0 : Int) ≤ k := by omega
          have HB := Lib.hid hB
          have HT := Lib.hid hT
          clear hB hT hlt hk fz
          go_wp2_with fail
          go_quiet (fail)
          replace HB := Lib.hid (HB.out.drewN nq)
          replace HT := Lib.hid (bel_drewN HT.out nq)
          replace HKk : Hid ((wr.drewN nq).cell? ⟨1, k, none⟩ = some (U64 kk)) := HKk
          clear c0 c1 c2 c3 c4 c5 c6 c7 ck
          generalize wr.drewN nq = w4 at *
          clear wr
          obtain ⟨c0, c1, c2, c3, c4, c5, c6, c7⟩ := blk8L HB.out
          have ck := HKk.out
          go_wp2_with fail
          refine (rot64_any _ _ 50 _ (by decide) (by decide)).mono ?_
          rintro e w' ⟨rfl, rfl⟩
          go_wp2_with fail
          refine (rot64_any _ _ 46 _ (by decide) (by decide)).mono ?_
          rintro e w' ⟨rfl, rfl⟩
          go_wp2_with fail
          refine (rot64_any _ _ 23 _ (by decide) (by decide)).mono ?_
          rintro e w' ⟨rfl, rfl⟩
          go_wp2_with fail
          go_quiet (fail)
          replace HB := Lib.hid (HB.out.drewN nq)
          replace HT := Lib.hid (bel_drewN HT.out nq)
          replace HKk : Hid ((w4.drewN nq).cell? ⟨1, k, none⟩ = some (U64 kk)) := HKk
          clear c0 c1 c2 c3 c4 c5 c6 c7 ck
          generalize w4.drewN nq = w5 at *
          clear w4
          obtain ⟨c0, c1, c2, c3, c4, c5, c6, c7⟩ := blk8L HB.out
          have ck := HKk.out
          go_wp2_with fail
          refine (rot64_any _ _ 36 _ (by decide) (by decide)).mono ?_
          rintro e w' ⟨rfl, rfl⟩
          go_wp2_with fail
          refine (rot64_any _ _ 30 _ (by decide) (by decide)).mono ?_
          rintro e w' ⟨rfl, rfl⟩
          go_wp2_with fail
          refine (rot64_any _ _ 25 _ (by decide) (by decide)).mono ?_
          rintro e w' ⟨rfl, rfl⟩
          go_wp2_with (first | (refine wpList_build_at rfl 91 _ rfl #[U64 (t512 ⟨va, vb, vc, vd, ve, vf, vg, vh⟩ kk x + u512 ⟨va, vb, vc, vd, ve, vf, vg, vh⟩), U64 va, U64 vb, U64 vc, U64 (vd + t512 ⟨va, vb, vc, vd, ve, vf, vg, vh⟩ kk x), U64 ve, U64 vf, U64 vg] (by rfl) ?_) | (refine wpList_store_arr rfl 91 (.tmp 10) _ rfl gv 91 _ [U64 (t512 ⟨va, vb, vc, vd, ve, vf, vg, vh⟩ kk x + u512 ⟨va, vb, vc, vd, ve, vf, vg, vh⟩), U64 va, U64 vb, U64 vc, U64 (vd + t512 ⟨va, vb, vc, vd, ve, vf, vg, vh⟩ kk x), U64 ve, U64 vf, U64 vg] HB.out rfl rfl (by kernel_rfl) (by rfl) (by rfl) ?_; intro w6 hB6 hT6))
          refine ⟨⟨k + 1, by omega, by go_num, ?_, ?_⟩, by simp [intOf]; omega⟩
          · rw [hsc.out]; exact hB6
          · exact below_turn HT.out hT6 (by simp) (Nat.le_of_lt HB.out.lt)
        · --AFTER3
          obtain rfl : k = 80 := by omega
          clear hk hge HAx
          have hq : ¬ ((80 : Int) < 80) := by omega
          have HB := Lib.hid hB
          have HT := Lib.hid hT
          clear hB hT
          go_wp2_with (refine wpList_load_arr rfl 91 (.tmp 10) rfl gv 91 _ HB.out rfl _ Tryd.underlying91 rfl (by kernel_rfl) ?_)
          have hnew : ∀ k x, (run512 kTab sl v0 80).list[k]? = some x → ((run512 kTab sl v0 80).list.map U64).toArray[k]? = some (U64 x) := fun k x h => by rw [List.getElem?_toArray, List.getElem?_map, h]; rfl
          have hout : take512 hs p = List.zipWith (fun h x => h + x) hs (run512 kTab sl v0 80).list := by unfold take512 out512; rw [Hsl.out, Hv0.out]
          have hol : (run512 kTab sl v0 80).list.length = 8 := rfl
          have hDw := Lib.hid (hDr.out.keep (HT.out.block d hdg))
          have hTw := Lib.hid (Turn.of_below [d] (HTr.out.trans (HT.out.mono (Nat.le_of_lt hgvw))))
          generalize (run512 kTab sl v0 80).list = ol at *
          generalize (ol.map U64).toArray = OA at *
          have Hnew := Lib.hid hnew
          have Hout := Lib.hid hout
          have Hol := Lib.hid hol
          clear hnew hout hol HT HB
          generalize hwz : wr = wz at *
          clear hwz
          go_loopw [159] (fun i wr => ∃ k : Nat, k ≤ 8 ∧ i = .int .i64 k ∧ Blk wr d 94 (hcells kind (mixTo (take512 hs p) hs k) wv cnt) ∧ Turn [d] w wr) (fun i _ => 8 - (intOf i).toNat)
          case atStart => exact ⟨0, by omega, rfl, by simpa [mixTo] using hDw.out, hTw.out⟩
          case round =>
            obtain ⟨k, hk, rfl, hB, hT⟩ := hrel
            have hnl : (take512 hs p).length = 8 := by rw [Hout.out]; simp [H8.out, Hol.out]
            rcases Nat.lt_or_ge k 8 with hlt | hge
            · obtain ⟨x, hx⟩ : ∃ x, hs[k]? = some x := ⟨_, List.getElem?_eq_getElem (by rw [H8.out]; exact hlt)⟩
              obtain ⟨y, hy⟩ : ∃ y, ol[k]? = some y := ⟨_, List.getElem?_eq_getElem (by rw [Hol.out]; exact hlt)⟩
              have hm : (mixTo (take512 hs p) hs k)[k]? = some x := (mixTo_get _ _ _ (by omega)).trans hx
              have hmx : (take512 hs p)[k]? = some (x + y) := by rw [Hout.out, List.getElem?_zipWith, hx, hy]
              have cx := (hB.cell (1 + k)).trans (hcells_get kind _ wv cnt k x hm)
              have fx := hB.frozen (1 + k)
              have hix := fun w => index_arr (t := 91) (q := .i64) Tryd.underlying91 Tryd.underlying78 (by kernel_rfl) hlt (Hnew.out k y hy) w
              have hki : (k : Int) < 8 := by omega
              have hk0 : (0 : Int) ≤ k := by omega
              have HM := Lib.hid (And.intro hmx (And.intro hnl hx))
              have HB := Lib.hid hB
              have HT := Lib.hid hT
              clear hB hT hlt hk hx hy hm hmx hnl
              go_wp2_with fail
              go_still_tail 11, (by kernel_rfl)
              go_wp2_with fail
              obtain ⟨hmx, hnl, hx⟩ := HM.out
              refine ⟨⟨k + 1, by omega, by go_num, ?_, (HT.out.setCell (.inl (by simp)) _).drew⟩, by simp [intOf]; omega⟩
              have := (HB.out.set_ (1 + k) (U64 (x + y))).drew
              rw [hcells_set _ _ _ _ _ _ (by rw [mixTo_len _ _ _ (by omega) (by rw [hnl, H8.out]; omega), H8.out]; omega), mixTo_set _ _ _ _ hmx (by rw [H8.out]; omega)] at this
              exact this
            · obtain rfl : k = 8 := by omega
              have hq : ¬ ((8 : Int) < 8) := by omega
              have HB := Lib.hid hB
              have HT := Lib.hid hT
              have HN := Lib.hid hnl
              clear hB hT hnl
              go_wp2_with fail
              go_end0
              refine ⟨rfl, ?_, HT.out⟩
              have := HB.out
              unfold mixTo at this
              rw [List.drop_eq_nil_of_le (by rw [H8.out]; omega), List.append_nil, List.take_of_length_le (by rw [HN.out]; omega)] at this
              exact this
end Go.Proofs.YtddemlajfbagdaaDoor
namespace Go.Proofs.YtddemlajfbagdaaDoor
open Go.RowKit

def hsize (k : Int) : Int := if k = 1 then 20 else if k = 2 then 28 else if k = 3 then 32 else if k = 4 then 48 else if k = 5 then 64 else 0
def hblock (k : Int) : Int := if k = 1 ∨ k = 2 ∨ k = 3 then 64 else if k = 4 ∨ k = 5 then 128 else 0
theorem size_any (kind : Int) (w : World) : Calls Tryd.prog 29 #[.int .i64 kind] w fun e w' => e = .returned (.int .i64 (hsize kind)) ∧ w = w' := by
  by_cases h1 : kind = 1
  · subst h1
    go_enter Tryd.func29, Tryd.ntmps29
    go_wp2
    go_ret
    exact ⟨rfl, rfl⟩
  by_cases h2 : kind = 2
  · subst h2
    go_enter Tryd.func29, Tryd.ntmps29
    go_wp2
    go_ret
    exact ⟨rfl, rfl⟩
  by_cases h3 : kind = 3
  · subst h3
    go_enter Tryd.func29, Tryd.ntmps29
    go_wp2
    go_ret
    exact ⟨rfl, rfl⟩
  by_cases h4 : kind = 4
  · subst h4
    go_enter Tryd.func29, Tryd.ntmps29
    go_wp2
    go_ret
    exact ⟨rfl, rfl⟩
  by_cases h5 : kind = 5
  · subst h5
    go_enter Tryd.func29, Tryd.ntmps29
    go_wp2
    go_ret
    exact ⟨rfl, rfl⟩
  have e1 : (kind == 1) = false := by simpa using h1
  have e2 : (kind == 2) = false := by simpa using h2
  have e3 : (kind == 3) = false := by simpa using h3
  have e4 : (kind == 4) = false := by simpa using h4
  have e5 : (kind == 5) = false := by simpa using h5
  have hz : hsize kind = 0 := by simp [hsize, h1, h2, h3, h4, h5]
  rw [hz]
  clear h1 h2 h3 h4 h5 hz
  go_enter Tryd.func29, Tryd.ntmps29
  go_wp2
  go_ret
  exact ⟨rfl, rfl⟩
theorem block_any (kind : Int) (w : World) : Calls Tryd.prog 66 #[.int .i64 kind] w fun e w' => e = .returned (.int .i64 (hblock kind)) ∧ w = w' := by
  by_cases h1 : kind = 1
  · subst h1
    go_enter Tryd.func66, Tryd.ntmps66
    go_wp2
    go_ret
    exact ⟨rfl, rfl⟩
  by_cases h2 : kind = 2
  · subst h2
    go_enter Tryd.func66, Tryd.ntmps66
    go_wp2
    go_ret
    exact ⟨rfl, rfl⟩
  by_cases h3 : kind = 3
  · subst h3
    go_enter Tryd.func66, Tryd.ntmps66
    go_wp2
    go_ret
    exact ⟨rfl, rfl⟩
  by_cases h4 : kind = 4
  · subst h4
    go_enter Tryd.func66, Tryd.ntmps66
    go_wp2
    go_ret
    exact ⟨rfl, rfl⟩
  by_cases h5 : kind = 5
  · subst h5
    go_enter Tryd.func66, Tryd.ntmps66
    go_wp2
    go_ret
    exact ⟨rfl, rfl⟩
  have e1 : (kind == 1) = false := by simpa using h1
  have e2 : (kind == 2) = false := by simpa using h2
  have e3 : (kind == 3) = false := by simpa using h3
  have e4 : (kind == 4) = false := by simpa using h4
  have e5 : (kind == 5) = false := by simpa using h5
  have hz : hblock kind = 0 := by simp [hblock, h1, h2, h3, h4, h5]
  rw [hz]
  clear h1 h2 h3 h4 h5 hz
  go_enter Tryd.func66, Tryd.ntmps66
  go_wp2
  go_ret
  exact ⟨rfl, rfl⟩
theorem rsize_any (kind : Int) (w : World) : Calls Tryd.prog 32 #[.int .i64 kind] w fun e w' => e = .returned (.int .i64 (hsize kind)) ∧ w = w' := by
  by_cases h1 : kind = 1
  · subst h1
    go_enter Tryd.func32, Tryd.ntmps32
    go_wp2
    go_ret
    exact ⟨rfl, rfl⟩
  by_cases h2 : kind = 2
  · subst h2
    go_enter Tryd.func32, Tryd.ntmps32
    go_wp2
    go_ret
    exact ⟨rfl, rfl⟩
  by_cases h3 : kind = 3
  · subst h3
    go_enter Tryd.func32, Tryd.ntmps32
    go_wp2
    go_ret
    exact ⟨rfl, rfl⟩
  by_cases h4 : kind = 4
  · subst h4
    go_enter Tryd.func32, Tryd.ntmps32
    go_wp2
    go_ret
    exact ⟨rfl, rfl⟩
  by_cases h5 : kind = 5
  · subst h5
    go_enter Tryd.func32, Tryd.ntmps32
    go_wp2
    go_ret
    exact ⟨rfl, rfl⟩
  have e1 : (kind == 1) = false := by simpa using h1
  have e2 : (kind == 2) = false := by simpa using h2
  have e3 : (kind == 3) = false := by simpa using h3
  have e4 : (kind == 4) = false := by simpa using h4
  have e5 : (kind == 5) = false := by simpa using h5
  have hz : hsize kind = 0 := by simp [hsize, h1, h2, h3, h4, h5]
  rw [hz]
  clear h1 h2 h3 h4 h5 hz
  go_enter Tryd.func32, Tryd.ntmps32
  go_wp2
  go_ret
  exact ⟨rfl, rfl⟩
/-- A block is taken in, whatever the kind. -/
def takeK (kind : Int) (hs : List UInt64) (p : List UInt8) : List UInt64 := if kind = 1 then take1 hs p else if kind = 2 ∨ kind = 3 then take256 hs p else take512 hs p
theorem take256_len (hs : List UInt64) (p : List UInt8) (h : hs.length = 8) : (take256 hs p).length = 8 := by
  unfold take256; rw [List.length_zipWith, h]; unfold out256; rw [V8.list_len]; rfl
theorem take512_len (hs : List UInt64) (p : List UInt8) (h : hs.length = 8) : (take512 hs p).length = 8 := by
  unfold take512; rw [List.length_zipWith, h]; unfold out512; rw [V8.list_len]; rfl
theorem takeK_len (kind : Int) (hs : List UInt64) (p : List UInt8) (h : hs.length = 8) : (takeK kind hs p).length = 8 := by
  unfold takeK
  split
  · exact take1_len hs p h
  · split
    · exact take256_len hs p h
    · exact take512_len hs p h

theorem take_any (d : Nat) (kind : Int) (hs : List UInt64) (wv : Value) (cnt : UInt64) (b off c m : Nat) (p : List UInt8) (w : World) (h : Blk w d 94 (hcells kind hs wv cnt)) (h8 : hs.length = 8)
    (hp : At w b off p) (hm : m = p.length) (hpl : (p.length : Int) = hblock kind) (hk : 1 ≤ kind ∧ kind ≤ 5) (hc : m ≤ c) (hcm : c ≤ maxLen) (hK : KAt w) (hd0 : d ≠ 1) :
    Calls Tryd.prog 67 #[.pointer (some ⟨d, 0, none⟩), .slice (some ⟨b, off, none⟩) m c] w fun e w' => e = .returned (.tuple #[]) ∧ Blk w' d 94 (hcells kind (takeK kind hs p) wv cnt) ∧ Turn [d] w w' := by
  have c0 : w.cell? ⟨d, 0, none⟩ = some (.int .i64 kind) := h.cell 0
  obtain ⟨k1, k2⟩ := hk
  have hcase : kind = 1 ∨ kind = 2 ∨ kind = 3 ∨ kind = 4 ∨ kind = 5 := by omega
  rcases hcase with rfl | rfl | rfl | rfl | rfl
  · have hl : p.length = 64 := by simp [hblock] at hpl; omega
    rw [hl] at hm
    subst hm
    have HC := Lib.hid (sha1_any d 1 hs wv cnt b off c p w h h8 hp hl hc hcm)
    clear h hp hl hpl
    go_enter Tryd.func67, Tryd.ntmps67
    go_wp2_with (go_at_call 85; refine HC.out.mono ?_; rintro e w' ⟨rfl, hB, hT⟩)
    go_end0
    exact ⟨rfl, hB, hT⟩
  · have hl : p.length = 64 := by simp [hblock] at hpl; omega
    rw [hl] at hm
    subst hm
    have HC := Lib.hid (sha256_any d 2 hs wv cnt b off c p w h h8 hp hl hc hcm hK hd0)
    clear h hp hl hpl
    go_enter Tryd.func67, Tryd.ntmps67
    go_wp2_with (go_at_call 86; refine HC.out.mono ?_; rintro e w' ⟨rfl, hB, hT⟩)
    go_end0
    exact ⟨rfl, hB, hT⟩
  · have hl : p.length = 64 := by simp [hblock] at hpl; omega
    rw [hl] at hm
    subst hm
    have HC := Lib.hid (sha256_any d 3 hs wv cnt b off c p w h h8 hp hl hc hcm hK hd0)
    clear h hp hl hpl
    go_enter Tryd.func67, Tryd.ntmps67
    go_wp2_with (go_at_call 86; refine HC.out.mono ?_; rintro e w' ⟨rfl, hB, hT⟩)
    go_end0
    exact ⟨rfl, hB, hT⟩
  · have hl : p.length = 128 := by simp [hblock] at hpl; omega
    rw [hl] at hm
    subst hm
    have HC := Lib.hid (sha512_any d 4 hs wv cnt b off c p w h h8 hp hl hc hcm hK hd0)
    clear h hp hl hpl
    go_enter Tryd.func67, Tryd.ntmps67
    go_wp2_with (go_at_call 87; refine HC.out.mono ?_; rintro e w' ⟨rfl, hB, hT⟩)
    go_end0
    exact ⟨rfl, hB, hT⟩
  · have hl : p.length = 128 := by simp [hblock] at hpl; omega
    rw [hl] at hm
    subst hm
    have HC := Lib.hid (sha512_any d 5 hs wv cnt b off c p w h h8 hp hl hc hcm hK hd0)
    clear h hp hl hpl
    go_enter Tryd.func67, Tryd.ntmps67
    go_wp2_with (go_at_call 87; refine HC.out.mono ?_; rintro e w' ⟨rfl, hB, hT⟩)
    go_end0
    exact ⟨rfl, hB, hT⟩
end Go.Proofs.YtddemlajfbagdaaDoor
namespace Go.Proofs.YtddemlajfbagdaaDoor
open Go.RowKit

theorem region_turnS {P : Program} {ops : Array Oper} {Q : Exit → Act → World → Prop} {id : Nat} {a : Act} {w : World} (T : List Nat) (hm : P.follows .mixedOrders = true)
    (h : ∀ wd, Old w wd → Turn T w wd → w.heap.size = wd.heap.size → wpAnyH P .any ops (NoPanic Q) (Turn T w) ops.size (Array.replicate ops.size false) a wd) : (Code.region id ops true).wp P Q a w :=
  wp_region_noPanic (wp_region_held_drew hm (Turn.drew (Turn.refl T w)) (fun hS => h _ (Old.drew (Old.refl w)) hS rfl))
theorem step_copyR {ops : Array Oper} {o : Oper} {a : Act} {w : World} {K : Act → World → Prop} {Q : Exit → Act → World → Prop} {E : Prop} (hgd : o.guard = none) (d s : Operand)
    (ho : o.op = .call { callee := .builtin .copy, args := #[d, s], argTypes := #[22, 22] })
    (base g n0 c0 off dl dc : Nat) (l : List UInt8) (hown : Own w base (.slice (some ⟨g, 0, none⟩) n0 c0) l) (hd : a.eval d = .slice (some ⟨g, off, none⟩) dl dc) (hoff : off + dl ≤ l.length)
    (A : Option Addr) (m c : Nat) (l2 : List UInt8) (hs : a.eval s = .slice A m c) (hrd : Rd w A m c l2)
    (h : ∀ w', Own w' base (.slice (some ⟨g, 0, none⟩) n0 c0) (splice l off (l2.take dl)) → w.grownBy w' (some g) → K (a.put o.dst (goInt ((min m dl : Nat) : Int))) w') :
    if Region.wanted o (yielded ops a.tmps) = true then Oper.wp Tryd.prog o a w K Q else E := by
  rw [if_pos (by simp [Region.wanted, hgd])]
  exact op_copy d s ho base g n0 c0 off dl dc l hown hd hoff A m c l2 hs hrd h
/-- The same in a plain region. -/
theorem wp_copyR {ops : Array Oper} {rest : List Oper} {o : Oper} {a : Act} {w : World} {Q : Exit → Act → World → Prop} (hgd : o.guard = none) (d s : Operand)
    (ho : o.op = .call { callee := .builtin .copy, args := #[d, s], argTypes := #[22, 22] })
    (base g n0 c0 off dl dc : Nat) (l : List UInt8) (hown : Own w base (.slice (some ⟨g, 0, none⟩) n0 c0) l) (hd : a.eval d = .slice (some ⟨g, off, none⟩) dl dc) (hoff : off + dl ≤ l.length)
    (A : Option Addr) (m c : Nat) (l2 : List UInt8) (hs : a.eval s = .slice A m c) (hrd : Rd w A m c l2)
    (h : ∀ w', Own w' base (.slice (some ⟨g, 0, none⟩) n0 c0) (splice l off (l2.take dl)) → w.grownBy w' (some g) → wpList Tryd.prog ops Q rest (a.put o.dst (goInt ((min m dl : Nat) : Int))) w') :
    wpList Tryd.prog ops Q (o :: rest) a w :=
  wpList_plain hgd fun _ hK => op_copy d s ho base g n0 c0 off dl dc l hown hd hoff A m c l2 hs hrd fun w' h1 h2 => hK _ _ (h w' h1 h2)
end Go.Proofs.YtddemlajfbagdaaDoor
