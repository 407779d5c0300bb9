/-
  Contract of the reference's sha256: a message is padded and its blocks are taken in.
-/
import Derived.Test.YtddemlajfbagdaaDoorRk
import Derived.StillTailTactics
namespace Go.Proofs.YtddemlajfbagdaaDoor
open Go.RowKit

/-- The state behind k blocks. -/
def rTakesha256 (h : List UInt32) (q : List UInt8) : List UInt32 := List.zipWith (· + ·) h (run256 (kTab32.take 64) (sched256 q 64) (V8.of h) 64).list
def rTosha256 (h : List UInt32) (P : List UInt8) : Nat → List UInt32
  | 0 => h
  | k + 1 => rTakesha256 (rTosha256 h P k) (P.drop (k * 64))
theorem rpad_len_64 (l : List UInt8) : ∃ N, (rpad 64 l).length = N * 64 := by
  refine ⟨(l.length + 1 + rzeros 64 l.length + 64 / 8) / 64, ?_⟩
  simp only [rpad, zs, List.length_append, List.length_cons, List.length_nil, List.length_replicate, bytes64]
  unfold rzeros
  omega
theorem rTosha256_len (h : List UInt32) (P : List UInt8) (k : Nat) (h8 : h.length = 8) : (rTosha256 h P k).length = 8 := by
  induction k with
  | zero => exact h8
  | succ k ih => rw [rTosha256, rTakesha256, List.length_zipWith, ih, V8.list_len]; rfl
/-- Between two blocks. -/
structure Outsha256 (w wr : World) (gh gk : Nat) (h : List UInt32) (P : List UInt8) (k : Nat) (A : Option Addr) (n c : Nat) : Prop where
  rd : Rd wr A n c (P.drop (k * 64))
  ge : ∀ ad, A = some ad → w.heap.size ≤ ad.block
  hblk : Blk wr gh 75 ((rTosha256 h P k).map U32).toArray
  kblk : Blk wr gk 75 ((kTab32.take 64).map U32).toArray
  kge : w.heap.size ≤ gk
  hlt : gh < w.heap.size
  turn : Turn [gh] w wr
  size : w.heap.size ≤ wr.heap.size

set_option maxRecDepth 100000 in
set_option maxHeartbeats 4000000 in
theorem rsha256_any (A : Option Addr) (m c gh ch : Nat) (l : List UInt8) (h : List UInt32) (w : World) (hr : Rd w A m c l) (hl : l.length ≤ 140737488352000) (hB : Blk w gh 75 (h.map U32).toArray) (h8 : h.length = 8) :
    Calls Tryd.prog 54 #[.slice A m c, .slice (some ⟨gh, 0, none⟩) 8 ch] w fun e w' => ∃ v, e = .returned v ∧ Own w' w.heap.size v ((rTosha256 h (rpad 64 l) ((rpad 64 l).length / 64)).flatMap bytes32) ∧ Turn [gh] w w' := by
  have HH := Lib.hid (And.intro hr (And.intro hl (And.intro hB h8)))
  have hPl := rpad_len_64 l
  clear hr hl hB h8
  go_enter Tryd.func54, Tryd.ntmps54
  go_wp2_with (first
    | (go_at_call 77; refine (k256_any _).mono ?_; rintro e w1 ⟨gk, rfl, hK⟩)
    | (go_at_call 73; refine (pad_64 A m c l w1 (HH.out.1.below hK.below) HH.out.2.1).mono ?_; rintro e w2 ⟨v, rfl, hO, hb2⟩; obtain ⟨A2, c2, rfl, hr2, hge2⟩ := hO.shape))
  generalize hP : rpad 64 l = P at *
  obtain ⟨N, hN⟩ := hPl
  have hN' : P.length / 64 = N := by rw [hN]; omega
  have hge3 : ∀ ad, A2 = some ad → w.heap.size ≤ ad.block := fun ad had => Nat.le_trans hK.below.size (hge2 ad had)
  have hO0 : Outsha256 w w2 gh gk h P 0 A2 P.length c2 := ⟨by simpa using hr2, hge3, by rw [rTosha256]; exact (HH.out.2.2.1.below hK.below).below hb2, hK.blk.below hb2, hK.ge, HH.out.2.2.1.lt, ((Turn.of_below [gh] hK.below).trans (Turn.of_below [] hb2) (by simp)), Nat.le_trans hK.below.size hb2.size⟩
  have H0 := Lib.hid (And.intro hN (And.intro hN' hO0))
  clear hK hO hb2 hr2 hge2 hge3 hN hN' hO0
  go_loopw [6] (fun v wr => ∃ k A n c, v = .slice A n c ∧ k ≤ N ∧ n = (N - k) * 64 ∧ Outsha256 w wr gh gk h P k A n c) (fun v _ => sliceLen v)
  case atStart => exact ⟨0, _, _, _, rfl, by omega, by rw [H0.out.1]; omega, H0.out.2.2⟩
  case round =>
    obtain ⟨k, A3, n3, c3, rfl, hk, hn, hO⟩ := hrel
    rcases Nat.lt_or_ge k N with hlt | hge
    · have hn3 : 64 ≤ n3 := by rw [hn]; have h1 : 1 ≤ N - k := (by omega); omega
      obtain ⟨b, off, rfl, hat⟩ := hO.rd.addr (by omega)
      have hn0 : decide (0 < n3) = true := decide_eq_true (by omega)
      have hn64 : (64 : Int) ≤ n3 := by omega
      have hc3 : n3 ≤ c3 := hO.rd.2.1
      have hc3m := hO.rd.2.2.1
      unfold maxLen at hc3m
      have hql : (P.drop (k * 64)).length = n3 := hO.rd.1.symm
      have H3 := Lib.hid (And.intro hn (And.intro hO (And.intro hat hql)))
      clear hn hO hat hql H0
      generalize wr = wo at *
      have hmk := make32
      go_wp2_with fail
      obtain ⟨q, hq⟩ : ∃ q, P.drop (k * 64) = q := ⟨_, rfl⟩
      obtain ⟨h0, hh0⟩ : ∃ h0, rTosha256 h P k = h0 := ⟨_, rfl⟩
      have hh8 : h0.length = 8 := by rw [← hh0]; exact rTosha256_len h P k HH.out.2.2.2
      have hHb := H3.out.2.1.hblk
      rw [hh0] at hHb
      have hKb := H3.out.2.1.kblk
      have hat : At wo b off q := by rw [← hq]; exact H3.out.2.2.1
      have hql : q.length = n3 := by rw [← hq]; exact H3.out.2.2.2
      have hghl : gh < wo.heap.size := Nat.lt_of_lt_of_le H3.out.2.1.hlt H3.out.2.1.size
      have hgkl := hKb.lt
      have H4 := Lib.hid (And.intro hq (And.intro hh0 (And.intro hh8 (And.intro hHb (And.intro hKb (And.intro hat hql))))))
      clear hq hh0 hh8 hHb hKb hat hql
      have hb0 : Blk (wo.alloc (.cells (part U32 (.int .u32 0) [] 64) 75)) wo.heap.size 75 (part U32 (.int .u32 0) [] 64) := Blk.new wo _ _
      have hT0 : Below wo.heap.size wo (wo.alloc (.cells (part U32 (.int .u32 0) [] 64) 75)) := (Below.refl _ _).alloc (Nat.le_refl _) _
      go_loopw [8] (fun i wx => ∃ t : Nat, t ≤ 64 ∧ i = .int .i64 t ∧ Blk wx wo.heap.size 75 (part U32 (.int .u32 0) (sched256 q t) 64) ∧ Below wo.heap.size wo wx) (fun i _ => 64 - (intOf i).toNat)
      case atStart => exact ⟨0, by omega, rfl, hb0, hT0⟩
      case round =>
        obtain ⟨t, ht, rfl, hS, hT⟩ := hrel
        clear hb0 hT0 hmk
        have hlk : (sched256 q t).length = t := schedTo_len _ _ _
        rcases Nat.lt_or_ge t 64 with hlt2 | hge2
        · rcases Nat.lt_or_ge t 16 with h16 | h16
          · have hs := Lib.hid (show sched256 q (t + 1) = sched256 q t ++ [word32 q (4 * t)] by show _ ++ [_] = _; rw [if_pos (by omega)]; rfl)
            have ck := (hS.cell t).trans (part_next U32 (.int .u32 0) (sched256 q t) 64 t hlk hlt2)
            have fk := hS.frozen t
            have hat := ((H4.out.2.2.2.2.2.1.keep hT.size (hT.block b H4.out.2.2.2.2.2.1.1)).drop (4 * t))
            have hG := Lib.hid (word_any b (off + 4 * t) (n3 - 4 * t) (c3 - 4 * t) (q.drop (4 * t)) wr hat (by rw [List.length_drop, H4.out.2.2.2.2.2.2]) (by omega))
            have hw0 : word32 (q.drop (4 * t)) 0 = word32 q (4 * t) := by simp [word32, List.getD]
            rw [← hw0] at hs
            clear hat hw0
            have HB := Lib.hid (And.intro hS (And.intro hT hlk))
            have hti : (t : Int) < 16 := by omega
            clear hS hT hlk hlt2 h16 ht
            go_wp2_with fail
            refine hG.out.mono ?_
            rintro e w' ⟨rfl, nq, rfl⟩
            have ck : (wr.drewN nq).cell? ⟨wo.heap.size, t, none⟩ = _ := ck
            have fk : (wr.drewN nq).frozen? ⟨wo.heap.size, t, none⟩ = false := fk
            go_wp2_with fail
            go_roundw
            case rel =>
              refine ⟨t + 1, by omega, by go_num, ?_, ?_⟩
              · rw [hs.out]
                have := (HB.out.1.drewN nq).set_ t (U32 (word32 (q.drop (4 * t)) 0))
                rw [part_setk _ _ _ _ _ _ HB.out.2.2 (by omega)] at this
                exact this
              · exact (bel_drewN HB.out.2.1 nq).setCell (Nat.le_refl _) _
            case measure => simp [intOf]; omega
          · have hs := Lib.hid (show sched256 q (t + 1) = sched256 q t ++ [next256 (sched256 q t) t] by show _ ++ [_] = _; rw [if_neg (by omega)]; rfl)
            have c16 := (hS.cell (t - 16)).trans (part_getD _ _ _ _ _ 0 (by omega))
            have c15 := (hS.cell (t - 15)).trans (part_getD _ _ _ _ _ 0 (by omega))
            have c7 := (hS.cell (t - 7)).trans (part_getD _ _ _ _ _ 0 (by omega))
            have c2 := (hS.cell (t - 2)).trans (part_getD _ _ _ _ _ 0 (by omega))
            have ck := (hS.cell t).trans (part_next U32 (.int .u32 0) (sched256 q t) 64 t hlk hlt2)
            have fk := hS.frozen t
            have HB := Lib.hid (And.intro hS (And.intro hT hlk))
            unfold next256 at hs
            generalize (sched256 q t).getD (t - 16) 0 = x16 at *
            generalize (sched256 q t).getD (t - 15) 0 = x15 at *
            generalize (sched256 q t).getD (t - 7) 0 = x7 at *
            generalize (sched256 q t).getD (t - 2) 0 = x2 at *
            have hti : (t : Int) < 64 := by omega
            have ht16 : (16 : Int) ≤ t := by omega
            clear hS hT hlk hlt2 h16 ht
            go_wp2_with fail
            have g1 : IntKind.i64.wrap ((t : Int) - 16) = (t : Int) - 16 := IntWalk.i64_in _ (by omega)
            have g2 : ((t : Int) - 16).toNat = t - 16 := by omega
            have g3 : IntKind.i64.wrap ((t : Int) - 7) = (t : Int) - 7 := IntWalk.i64_in _ (by omega)
            have g4 : ((t : Int) - 7).toNat = t - 7 := by omega
            have g5 : (7 : Int) ≤ t := by omega
            have g6 : (t : Int) - 16 < 64 := by omega
            have g7 : (t : Int) - 7 < 64 := by omega
            refine wp_region_still_tail 32 (by kernel_rfl) (by kernel_rfl) ?_
            simp only [List.take_succ_cons, List.take_zero, List.drop_succ_cons, List.drop_zero]
            repeat (first | still_step | (refine wpStill_step (fun K hK => ?_); go_simp; apply Exists.intro; refine ⟨?_, ?_⟩; (first | (with_reducible exact right_7 _ _) | (with_reducible exact right_18 _ _) | (with_reducible exact right_17 _ _) | (with_reducible exact right_19 _ _)); refine hK _ ?_; clear hK K))
            refine wpStill_nil ?_
            go_wp2_with fail
            clear g1 g2 g3 g4 g5 g6 g7
            go_roundw
            case rel =>
              refine ⟨t + 1, by omega, by go_num, ?_, ?_⟩
              · rw [hs.out]
                have := (HB.out.1.set_ t (U32 (x16 + (rotl32 x15 25 ^^^ rotl32 x15 14 ^^^ x15 >>> 3) + x7 + (rotl32 x2 15 ^^^ rotl32 x2 13 ^^^ x2 >>> 10)))).drew
                rw [part_setk _ _ _ _ _ _ HB.out.2.2 (by omega)] at this
                exact this
              · exact (HB.out.2.1.setCell (Nat.le_refl _) _).drew
            case measure => simp [intOf]; omega
        · obtain rfl : t = 64 := by omega
          rw [part_full _ _ _ _ hlk] at hS
          generalize wr = wx at *
          have hHx := H4.out.2.2.2.1.keep (hT.block gh hghl)
          have hKx := H4.out.2.2.2.2.1.keep (hT.block gk hgkl)
          have hsl : (sched256 q 64).length = 64 := hlk
          generalize hslq : sched256 q 64 = sl at *
          have hgw := hS.lt
          have H5 := Lib.hid (And.intro hS (And.intro hT (And.intro hHx (And.intro hKx (And.intro hsl hslq)))))
          clear hS hT hHx hKx hsl hslq hlk ht hge2
          have hq1 : ¬ ((64 : Int) < 64) := by omega
          go_wp2_with (at_builtin; go_must (refine wp_copy32 (.tmp 83) gh ch h0 H5.out.2.2.1 H4.out.2.2.1 rfl rfl rfl ?_; intro gv cv w4 hC))
          have hr0 : WRow U32 w4 gv (run256 (kTab32.take 64) sl (V8.of h0) 0).list := by rw [show run256 (kTab32.take 64) sl (V8.of h0) 0 = V8.of h0 from rfl, v8_of h0 H4.out.2.2.1]; exact hC.row
          have hC' := Lib.hid (And.intro hC.below (And.intro hC.ge hC.cap))
          have hcv : (8 : Int) ≤ cv := by have := hC.cap; omega
          clear hC
          go_loopw [11, 12] (fun v i wy => ∃ (t gv cv : Nat), t ≤ 64 ∧ i = .int .i64 t ∧ v = .slice (some ⟨gv, 0, none⟩) 8 cv ∧ WRow U32 wy gv (run256 (kTab32.take 64) sl (V8.of h0) t).list ∧ wx.heap.size ≤ gv ∧ Below wx.heap.size wx wy) (fun _ i _ => 64 - (intOf i).toNat)
          case atStart => exact ⟨0, gv, cv, by omega, rfl, rfl, hr0, hC'.out.2.1, hC'.out.1⟩
          case round =>
            obtain ⟨t, gv, cv, ht, rfl, rfl, hW, hgv, hB⟩ := hrel
            rcases Nat.lt_or_ge t 64 with hlt3 | hge3
            · have ks := (H5.out.2.2.2.1.keep (hB.block gk (by omega))).cell t
              rw [List.getElem?_toArray, List.getElem?_map, show (kTab32.take 64)[t]? = some ((kTab32.take 64).getD t 0) from get_getD (kTab32.take 64) t (by rw [ktab64]; exact hlt3)] at ks
              have ws := (H5.out.1.keep (hB.block wo.heap.size (by omega))).cell t
              rw [List.getElem?_toArray, List.getElem?_map, get_getD sl t (by rw [H5.out.2.2.2.2.1]; exact hlt3)] at ws
              simp only [Option.map_some] at ks ws
              have hst : run256 (kTab32.take 64) sl (V8.of h0) (t + 1) = step256 (run256 (kTab32.take 64) sl (V8.of h0) t) ((kTab32.take 64).getD t 0) (sl.getD t 0) := rfl
              generalize run256 (kTab32.take 64) sl (V8.of h0) t = V at *
              generalize (kTab32.take 64).getD t 0 = kt at *
              generalize sl.getD t 0 = wt at *
              obtain ⟨va, vb, vc, vd, ve, vf, vg, vh⟩ := V
              have c0 := hW.2 0 va rfl
              have c1 := hW.2 1 vb rfl
              have c2 := hW.2 2 vc rfl
              have c3 := hW.2 3 vd rfl
              have c4 := hW.2 4 ve rfl
              have c5 := hW.2 5 vf rfl
              have c6 := hW.2 6 vg rfl
              have c7 := hW.2 7 vh rfl
              have hti : (t : Int) < 64 := by omega
              have ht0 : (0 : Int) ≤ t := by omega
              have H6 := Lib.hid hst
              have HB0 := Lib.hid hB
              clear hW hgv hB hst hr0 hlt3 ht
              go_wp2_with fail
              go_quiet ((go_at_call 78; apply Calls.quiet_of_same; first | (with_reducible exact right_6 _ _) | (with_reducible exact right_11 _ _) | (with_reducible exact right_25 _ _)))
              replace c0 : (wr.drewN nq).cell? ⟨gv, 0, none⟩ = _ := c0
              replace c1 : (wr.drewN nq).cell? ⟨gv, 1, none⟩ = _ := c1
              replace c2 : (wr.drewN nq).cell? ⟨gv, 2, none⟩ = _ := c2
              replace c3 : (wr.drewN nq).cell? ⟨gv, 3, none⟩ = _ := c3
              replace c4 : (wr.drewN nq).cell? ⟨gv, 4, none⟩ = _ := c4
              replace c5 : (wr.drewN nq).cell? ⟨gv, 5, none⟩ = _ := c5
              replace c6 : (wr.drewN nq).cell? ⟨gv, 6, none⟩ = _ := c6
              have HB1 := Lib.hid (bel_drewN HB0.out nq)
              clear c7 ks ws HB0
              generalize wr.drewN nq = w6 at *
              go_wp2_with fail
              go_quiet ((go_at_call 78; apply Calls.quiet_of_same; first | (with_reducible exact right_2 _ _) | (with_reducible exact right_13 _ _) | (with_reducible exact right_22 _ _)))
              replace c0 : (w6.drewN nq).cell? ⟨gv, 0, none⟩ = _ := c0
              replace c1 : (w6.drewN nq).cell? ⟨gv, 1, none⟩ = _ := c1
              replace c2 : (w6.drewN nq).cell? ⟨gv, 2, none⟩ = _ := c2
              replace c3 : (w6.drewN nq).cell? ⟨gv, 3, none⟩ = _ := c3
              replace c4 : (w6.drewN nq).cell? ⟨gv, 4, none⟩ = _ := c4
              replace c5 : (w6.drewN nq).cell? ⟨gv, 5, none⟩ = _ := c5
              replace c6 : (w6.drewN nq).cell? ⟨gv, 6, none⟩ = _ := c6
              have HB2 := Lib.hid (bel_drewN HB1.out nq)
              clear HB1
              generalize w6.drewN nq = w7 at *
              clear wr w6
              go_wp2_with fail
              go_still_tail 26, (by kernel_rfl)
              go_wp2_with fail
              go_roundw
              case rel =>
                refine ⟨t + 1, _, _, by omega, by go_num, rfl, ?_, HB2.out.size, (HB2.out.alloc HB2.out.size _).drew⟩
                rw [H6.out]
                exact (Blk.new w7 75 ((step256 ⟨va, vb, vc, vd, ve, vf, vg, vh⟩ kt wt).list.map U32).toArray).wrow
              case measure => simp [intOf]; omega
            · obtain rfl : t = 64 := by omega
              have hq2 : ¬ ((64 : Int) < 64) := by omega
              generalize wr = wy at *
              have hHy := H5.out.2.2.1.keep (hB.block gh (by omega))
              obtain ⟨vl, hvl⟩ : ∃ vl, (run256 (kTab32.take 64) sl (V8.of h0) 64).list = vl := ⟨_, rfl⟩
              rw [hvl] at hW
              have hvl8 : vl.length = 8 := by rw [← hvl]; rfl
              have hnew : rTosha256 h P (k + 1) = List.zipWith (· + ·) h0 vl := by rw [rTosha256, H4.out.2.1, H4.out.1, rTakesha256, H5.out.2.2.2.2.2, hvl]
              obtain ⟨nw, hnw⟩ : ∃ nw, List.zipWith (· + ·) h0 vl = nw := ⟨_, rfl⟩
              have hnw8 : nw.length = 8 := by rw [← hnw, List.length_zipWith, H4.out.2.2.1, hvl8]; rfl
              rw [hnw] at hnew
              have H7 := Lib.hid (And.intro hW (And.intro hB (And.intro hvl8 (And.intro hnew (And.intro hnw (And.intro hnw8 hgv))))))
              have hHy0 : Blk wy gh 75 ((mixTo nw h0 0).map U32).toArray := by simpa [mixTo] using hHy
              clear hW hB hvl hvl8 hnew hnw hnw8 hHy hr0 hge3 ht hgv
              go_wp2_with fail
              go_loopw [17] (fun i wz => ∃ t : Nat, t ≤ 8 ∧ i = .int .i64 t ∧ Blk wz gh 75 ((mixTo nw h0 t).map U32).toArray ∧ Turn [gh] wy wz) (fun i _ => 8 - (intOf i).toNat)
              case atStart => exact ⟨0, by omega, rfl, hHy0, Turn.refl _ _⟩
              case round =>
                obtain ⟨t, ht, rfl, hM, hT⟩ := hrel
                clear hHy0
                rcases Nat.lt_or_ge t 8 with hlt4 | hge4
                · obtain ⟨x, hx⟩ : ∃ x, h0[t]? = some x := ⟨_, List.getElem?_eq_getElem (by rw [H4.out.2.2.1]; exact hlt4)⟩
                  obtain ⟨y, hy⟩ : ∃ y, vl[t]? = some y := ⟨_, List.getElem?_eq_getElem (by rw [H7.out.2.2.1]; exact hlt4)⟩
                  have hxy : nw[t]? = some (x + y) := by rw [← H7.out.2.2.2.2.1, List.getElem?_zipWith, hx, hy]
                  have ch0 := hM.cell t
                  rw [List.getElem?_toArray, List.getElem?_map, mixTo_get _ _ _ (by rw [H7.out.2.2.2.2.2.1]; omega), hx] at ch0
                  simp only [Option.map_some] at ch0
                  have cv0 := ((H7.out.1.keep hT.size (hT.block gv H7.out.1.1 (by have := H7.out.2.2.2.2.2.2; simp; omega))).2 t y hy)
                  have fh0 := hM.frozen t
                  have hM2 := hM.set_ t (U32 (x + y))
                  rw [List.setIfInBounds_toArray, ← List.map_set, mixTo_set _ _ _ _ hxy (by rw [H4.out.2.2.1]; exact hlt4)] at hM2
                  have H8 := Lib.hid (And.intro hM2 (hT.setCell (p := ⟨gh, t, none⟩) (.inl (by simp)) (U32 (x + y))))
                  have hti : (t : Int) < 8 := by omega
                  have ht0 : (0 : Int) ≤ t := by omega
                  clear hM hT hM2 hx hy hxy hlt4 ht
                  go_wp2_with fail
                  go_still_tail 10, (by kernel_rfl)
                  go_wp2_with fail
                  go_roundw
                  case rel => exact ⟨t + 1, by omega, by go_num, H8.out.1.drew, H8.out.2.drew⟩
                  case measure => simp [intOf]; omega
                · obtain rfl : t = 8 := by omega
                  have hq3 : ¬ ((8 : Int) < 8) := by omega
                  have hdone : mixTo nw h0 8 = nw := mixTo_done _ _ _ (by rw [H7.out.2.2.2.2.2.1]; omega) (fun i hi => by rw [List.getElem?_eq_none (by rw [H7.out.2.2.2.2.2.1]; exact hi), List.getElem?_eq_none (by rw [H4.out.2.2.1]; exact hi)])
                  rw [hdone] at hM
                  have hTw : Turn [gh] wo wr := (Turn.of_below [gh] (H5.out.2.1.trans (H7.out.2.1.mono (by omega)))).trans hT (by simp)
                  have hge : ∀ ad, some (⟨b, off, none⟩ : Addr) = some ad → w.heap.size ≤ ad.block := H3.out.2.1.ge
                  have hrd := H3.out.2.1.rd.turn hTw (fun ad had => by have := hge ad had; have := H3.out.2.1.hlt; simp; omega)
                  have hcut := hrd.cut (k := 64) (by omega)
                  rw [List.drop_drop, show k * 64 + 64 = (k + 1) * 64 from by omega] at hcut
                  have hTT := H3.out.2.1.turn.trans hTw (by simp)
                  have hKw := (H4.out.2.2.2.2.1.turn hTw (by have := H3.out.2.1.hlt; have := H3.out.2.1.kge; simp; omega))
                  rw [← H7.out.2.2.2.1] at hM
                  have hszw : w.heap.size ≤ wr.heap.size := hTT.size
                  have H9 := Lib.hid (And.intro hM (And.intro hTT (And.intro hKw (And.intro hcut hge))))
                  clear hM hT hdone hTw hge hrd hcut hTT hKw hge4 ht
                  rcases Nat.lt_or_ge 64 c3 with hcl | hcl
                  · have hci : (64 : Int) < c3 := by omega
                    go_wp2_with fail
                    go_roundw
                    case rel =>
                      have hcut := H9.out.2.2.2.1
                      rw [if_neg (by omega)] at hcut
                      refine ⟨k + 1, _, _, _, rfl, by omega, ?_, ⟨hcut, fun ad had => by cases had; exact H9.out.2.2.2.2 ⟨b, off, none⟩ rfl, H9.out.1, H9.out.2.2.1, H3.out.2.1.kge, H3.out.2.1.hlt, H9.out.2.1, hszw⟩⟩
                      rw [H3.out.1]; have : N - k = (N - (k + 1)) + 1 := by omega
                      rw [this, Nat.add_mul]; omega
                    case measure => simp [sliceLen]; omega
                  · obtain rfl : c3 = 64 := by omega
                    obtain rfl : n3 = 64 := by omega
                    go_wp2_with fail
                    go_roundw
                    case rel =>
                      have hcut := H9.out.2.2.2.1
                      rw [if_pos rfl] at hcut
                      refine ⟨k + 1, _, _, _, rfl, by omega, ?_, ⟨hcut, H9.out.2.2.2.2, H9.out.1, H9.out.2.2.1, H3.out.2.1.kge, H3.out.2.1.hlt, H9.out.2.1, hszw⟩⟩
                      have := H3.out.1; have : N - k = (N - (k + 1)) + 1 := by omega
                      omega
                    case measure => simp [sliceLen]
    · obtain rfl : k = N := by omega
      have hn0 : n3 = 0 := by rw [hn]; omega
      subst hn0
      have hHb := hO.hblk
      have hwr := Blk.wrow hHb
      have h8 : (rTosha256 h P k).length = 8 := rTosha256_len h P k HH.out.2.2.2
      have H1 := Lib.hid (And.intro hO h8)
      have HW := Lib.hid (words_any gh 8 ch (rTosha256 h P k) wr hwr h8.symm (by omega))
      clear hn hO hHb hwr h8 hge hk
      go_wp2_with (go_at_call 76; with_reducible refine HW.out.mono ?_; rintro e w5 ⟨v5, rfl, hO5, hb5⟩)
      go_ret
      refine ⟨_, rfl, ?_, H1.out.1.turn.trans (Turn.of_below [] hb5) (by simp)⟩
      rw [hP, H0.out.2.1]
      exact hO5.mono H1.out.1.size
end Go.Proofs.YtddemlajfbagdaaDoor
