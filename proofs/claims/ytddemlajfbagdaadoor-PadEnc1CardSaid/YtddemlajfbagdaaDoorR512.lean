/-
  Contract of the reference's sha512: a message is padded and its blocks are taken in.
-/
import Derived.Test.YtddemlajfbagdaaDoorZzRk2
import Derived.StillTailTactics
import Derived.Deep.RegionHeld3
import Derived.Deep.DrawnRows
namespace Go.Proofs.YtddemlajfbagdaaDoor
open Go.RowKit
attribute [local go_sem ↓] Go.wp_at_zero Go.wp_at_succ

/-- The state behind k blocks. -/
def rTakesha512 (h : List UInt64) (q : List UInt8) : List UInt64 := List.zipWith (· + ·) h (run512 kTab (sched512 q 80) (V8.of h) 80).list
def rTosha512 (h : List UInt64) (P : List UInt8) : Nat → List UInt64
  | 0 => h
  | k + 1 => rTakesha512 (rTosha512 h P k) (P.drop (k * 128))
theorem rpad_len_128 (l : List UInt8) : ∃ N, (rpad 128 l).length = N * 128 := by
  refine ⟨(l.length + 1 + rzeros 128 l.length + 128 / 8) / 128, ?_⟩
  simp only [rpad, zs, List.length_append, List.length_cons, List.length_nil, List.length_replicate, bytes64]
  unfold rzeros
  omega
theorem rTosha512_len (h : List UInt64) (P : List UInt8) (k : Nat) (h8 : h.length = 8) : (rTosha512 h P k).length = 8 := by
  induction k with
  | zero => exact h8
  | succ k ih => rw [rTosha512, rTakesha512, List.length_zipWith, ih, V8.list_len]; rfl
/-- Between two blocks. -/
structure Outsha512 (w wr : World) (gh gk : Nat) (h : List UInt64) (P : List UInt8) (k : Nat) (A : Option Addr) (n c : Nat) : Prop where
  rd : Rd wr A n c (P.drop (k * 128))
  ge : ∀ ad, A = some ad → w.heap.size ≤ ad.block
  hblk : Blk wr gh 78 ((rTosha512 h P k).map U64).toArray
  kblk : Blk wr gk 78 (kTab.map U64).toArray
  kge : w.heap.size ≤ gk
  hlt : gh < w.heap.size
  turn : Turn [gh] w wr
  size : w.heap.size ≤ wr.heap.size

set_option maxRecDepth 100000 in
set_option maxHeartbeats 4000000 in
theorem rsha512_any (A : Option Addr) (m c gh ch : Nat) (l : List UInt8) (h : List UInt64) (w : World) (hr : Rd w A m c l) (hl : l.length ≤ 140737488352000) (hB : Blk w gh 78 (h.map U64).toArray) (h8 : h.length = 8) :
    Calls Tryd.prog 55 #[.slice A m c, .slice (some ⟨gh, 0, none⟩) 8 ch] w fun e w' => ∃ v, e = .returned v ∧ Own w' w.heap.size v ((rTosha512 h (rpad 128 l) ((rpad 128 l).length / 128)).flatMap bytes64) ∧ Turn [gh] w w' := by
  have HH := Lib.hid (And.intro hr (And.intro hl (And.intro hB h8)))
  have hPl := rpad_len_128 l
  clear hr hl hB h8
  go_enter Tryd.func55, Tryd.ntmps55
  go_wp2_with (first
    | (go_at_call 79; refine (k512_any _).mono ?_; rintro e w1 ⟨gk, rfl, hK⟩)
    | (go_at_call 73; refine (pad_128 A m c l w1 (HH.out.1.below hK.below) HH.out.2.1).mono ?_; rintro e w2 ⟨v, rfl, hO, hb2⟩; obtain ⟨A2, c2, rfl, hr2, hge2⟩ := hO.shape))
  generalize hP : rpad 128 l = P at *
  obtain ⟨N, hN⟩ := hPl
  have hN' : P.length / 128 = N := by rw [hN]; omega
  have hge3 : ∀ ad, A2 = some ad → w.heap.size ≤ ad.block := fun ad had => Nat.le_trans hK.below.size (hge2 ad had)
  have hO0 : Outsha512 w w2 gh gk h P 0 A2 P.length c2 := ⟨by simpa using hr2, hge3, by rw [rTosha512]; exact (HH.out.2.2.1.below hK.below).below hb2, hK.blk.below hb2, hK.ge, HH.out.2.2.1.lt, ((Turn.of_below [gh] hK.below).trans (Turn.of_below [] hb2) (by simp)), Nat.le_trans hK.below.size hb2.size⟩
  have H0 := Lib.hid (And.intro hN (And.intro hN' hO0))
  clear hK hO hb2 hr2 hge2 hge3 hN hN' hO0
  go_loopw [6] (fun v wr => ∃ k A n c, v = .slice A n c ∧ k ≤ N ∧ n = (N - k) * 128 ∧ Outsha512 w wr gh gk h P k A n c) (fun v _ => sliceLen v)
  case atStart => exact ⟨0, _, _, _, rfl, by omega, by rw [H0.out.1]; omega, H0.out.2.2⟩
  case round =>
    obtain ⟨k, A3, n3, c3, rfl, hk, hn, hO⟩ := hrel
    rcases Nat.lt_or_ge k N with hlt | hge
    · have hn3 : 128 ≤ n3 := by rw [hn]; have h1 : 1 ≤ N - k := (by omega); omega
      obtain ⟨b, off, rfl, hat⟩ := hO.rd.addr (by omega)
      have hn0 : decide (0 < n3) = true := decide_eq_true (by omega)
      have hn64 : (128 : Int) ≤ n3 := by omega
      have hc3 : n3 ≤ c3 := hO.rd.2.1
      have hc3m := hO.rd.2.2.1
      unfold maxLen at hc3m
      have hql : (P.drop (k * 128)).length = n3 := hO.rd.1.symm
      have H3 := Lib.hid (And.intro hn (And.intro hO (And.intro hat hql)))
      clear hn hO hat hql H0
      generalize wr = wo at *
      have hmk := make64
      go_wp2_with fail
      obtain ⟨q, hq⟩ : ∃ q, P.drop (k * 128) = q := ⟨_, rfl⟩
      obtain ⟨h0, hh0⟩ : ∃ h0, rTosha512 h P k = h0 := ⟨_, rfl⟩
      have hh8 : h0.length = 8 := by rw [← hh0]; exact rTosha512_len h P k HH.out.2.2.2
      have hHb := H3.out.2.1.hblk
      rw [hh0] at hHb
      have hKb := H3.out.2.1.kblk
      have hat : At wo b off q := by rw [← hq]; exact H3.out.2.2.1
      have hql : q.length = n3 := by rw [← hq]; exact H3.out.2.2.2
      have hghl : gh < wo.heap.size := Nat.lt_of_lt_of_le H3.out.2.1.hlt H3.out.2.1.size
      have hgkl := hKb.lt
      have H4 := Lib.hid (And.intro hq (And.intro hh0 (And.intro hh8 (And.intro hHb (And.intro hKb (And.intro hat hql))))))
      clear hq hh0 hh8 hHb hKb hat hql
      have hb0 : Blk (wo.alloc (.cells (part U64 (.int .u64 0) [] 80) 78)) wo.heap.size 78 (part U64 (.int .u64 0) [] 80) := Blk.new wo _ _
      have hT0 : Below wo.heap.size wo (wo.alloc (.cells (part U64 (.int .u64 0) [] 80) 78)) := (Below.refl _ _).alloc (Nat.le_refl _) _
      go_loopw [8] (fun i wx => ∃ t : Nat, t ≤ 80 ∧ i = .int .i64 t ∧ Blk wx wo.heap.size 78 (part U64 (.int .u64 0) (sched512 q t) 80) ∧ Below wo.heap.size wo wx) (fun i _ => 80 - (intOf i).toNat)
      case atStart => exact ⟨0, by omega, rfl, hb0, hT0⟩
      case round =>
        obtain ⟨t, ht, rfl, hS, hT⟩ := hrel
        clear hb0 hT0 hmk
        have hlk : (sched512 q t).length = t := schedTo_len _ _ _
        rcases Nat.lt_or_ge t 80 with hlt2 | hge2
        · rcases Nat.lt_or_ge t 16 with h16 | h16
          · have hs := Lib.hid (show sched512 q (t + 1) = sched512 q t ++ [word64 q (8 * t)] by show _ ++ [_] = _; rw [if_pos (by omega)]; rfl)
            have ck := (hS.cell t).trans (part_next U64 (.int .u64 0) (sched512 q t) 80 t hlk hlt2)
            have fk := hS.frozen t
            have hat1 := ((H4.out.2.2.2.2.2.1.keep hT.size (hT.block b H4.out.2.2.2.2.2.1.1)).drop (8 * t))
            have hat2 := ((H4.out.2.2.2.2.2.1.keep hT.size (hT.block b H4.out.2.2.2.2.2.1.1)).drop (8 * t + 4))
            have hw0 : word32 (q.drop (8 * t)) 0 = word32 q (8 * t) := by simp [word32, List.getD]
            have hw4 : word32 (q.drop (8 * t + 4)) 0 = word32 q (8 * t + 4) := by simp [word32, List.getD]
            rw [word64_two, ← hw0, ← hw4] at hs
            have HG := Lib.hid (And.intro hat1 hat2)
            clear hat1 hat2 hw0 hw4
            have HB := Lib.hid (And.intro hS (And.intro hT hlk))
            have hti : (t : Int) < 16 := by omega
            clear hS hT hlk hlt2 h16 ht
            go_wp2_with fail
            have g1 : IntKind.i64.wrap (8 * (t : Int)) = 8 * (t : Int) := IntWalk.i64_in _ (by omega)
            have g2 : (8 * (t : Int)).toNat = 8 * t := by omega
            have g3 : IntKind.i64.wrap (8 * (t : Int) + 4) = 8 * (t : Int) + 4 := IntWalk.i64_in _ (by omega)
            have g4 : (8 * (t : Int) + 4).toNat = 8 * t + 4 := by omega
            have g5 : (0 : Int) ≤ t := by omega
            have g6 : 8 * (t : Int) ≤ n3 := by omega
            have g7 : 8 * (t : Int) ≤ c3 := by omega
            have g8 : 8 * (t : Int) + 4 ≤ n3 := by omega
            have g9 : 8 * (t : Int) + 4 ≤ c3 := by omega
            have g10 : (0 : Int) ≤ 8 * (t : Int) := by omega
            have g11 : (0 : Int) ≤ 8 * (t : Int) + 4 := by omega
            have g12 : (t : Int) < 80 := by omega
            have g13 : ¬ c3 = 8 * t := by omega
            have g14 : ¬ c3 = 8 * t + 4 := by omega
            go_region_held3 (fun _ => True) (trivial) (first
              | (go_at_call 74; (with_reducible refine (word_at b (off + 8 * t) (n3 - 8 * t) (c3 - 8 * t) (q.drop (8 * t)) wr _ HG.out.1 ?_ (by rw [List.length_drop, H4.out.2.2.2.2.2.2]) (by omega)).mono ?_); rfl; rintro e w' ⟨rfl, nq, rfl⟩)
              | (go_at_call 74; (with_reducible refine (word_at b (off + (8 * t + 4)) (n3 - (8 * t + 4)) (c3 - (8 * t + 4)) (q.drop (8 * t + 4)) wr _ HG.out.2 ?_ (by rw [List.length_drop, H4.out.2.2.2.2.2.2]) (by omega)).mono ?_); rfl; rintro e w' ⟨rfl, nq2, rfl⟩))
            go_wp2_with fail
            go_roundw
            case rel =>
              refine ⟨t + 1, by omega, by go_num, ?_, ?_⟩
              · rw [hs.out]
                have := (HB.out.1.drewN (1 + nq + nq2)).set_ t (U64 (((word32 (q.drop (8 * t)) 0).toUInt64 <<< 32 ||| (word32 (q.drop (8 * t + 4)) 0).toUInt64)))
                rw [part_setk _ _ _ _ _ _ HB.out.2.2 (by omega)] at this
                exact this
              · exact (bel_drewN HB.out.2.1 (1 + nq + nq2)).setCell (Nat.le_refl _) _
            case measure => simp [intOf]; omega
          · have hs := Lib.hid (show sched512 q (t + 1) = sched512 q t ++ [next512 (sched512 q t) t] by show _ ++ [_] = _; rw [if_neg (by omega)]; rfl)
            have c16 := (hS.cell (t - 16)).trans (part_getD _ _ _ _ _ 0 (by omega))
            have c15 := (hS.cell (t - 15)).trans (part_getD _ _ _ _ _ 0 (by omega))
            have c7 := (hS.cell (t - 7)).trans (part_getD _ _ _ _ _ 0 (by omega))
            have c2 := (hS.cell (t - 2)).trans (part_getD _ _ _ _ _ 0 (by omega))
            have ck := (hS.cell t).trans (part_next U64 (.int .u64 0) (sched512 q t) 80 t hlk hlt2)
            have fk := hS.frozen t
            have HB := Lib.hid (And.intro hS (And.intro hT hlk))
            unfold next512 at hs
            generalize (sched512 q t).getD (t - 16) 0 = x16 at *
            generalize (sched512 q t).getD (t - 15) 0 = x15 at *
            generalize (sched512 q t).getD (t - 7) 0 = x7 at *
            generalize (sched512 q t).getD (t - 2) 0 = x2 at *
            have hti : (t : Int) < 80 := by omega
            have ht16 : (16 : Int) ≤ t := by omega
            clear hS hT hlk hlt2 h16 ht
            go_wp2_with fail
            have g1 : IntKind.i64.wrap ((t : Int) - 16) = (t : Int) - 16 := IntWalk.i64_in _ (by omega)
            have g2 : ((t : Int) - 16).toNat = t - 16 := by omega
            have g3 : IntKind.i64.wrap ((t : Int) - 7) = (t : Int) - 7 := IntWalk.i64_in _ (by omega)
            have g4 : ((t : Int) - 7).toNat = t - 7 := by omega
            have g5 : (7 : Int) ≤ t := by omega
            have g6 : (t : Int) - 16 < 80 := by omega
            have g7 : (t : Int) - 7 < 80 := by omega
            refine wp_region_still_tail 32 (by kernel_rfl) (by kernel_rfl) ?_
            simp only [List.take_succ_cons, List.take_zero, List.drop_succ_cons, List.drop_zero]
            repeat (first | still_step | (refine wpStill_step (fun K hK => ?_); go_simp; apply Exists.intro; refine ⟨?_, ?_⟩; (first | (with_reducible exact rightL_1 _ _) | (with_reducible exact rightL_8 _ _) | (with_reducible exact rightL_19 _ _) | (with_reducible exact rightL_61 _ _)); refine hK _ ?_; clear hK K))
            refine wpStill_nil ?_
            go_wp2_with fail
            clear g1 g2 g3 g4 g5 g6 g7
            go_roundw
            case rel =>
              refine ⟨t + 1, by omega, by go_num, ?_, ?_⟩
              · rw [hs.out]
                have := (HB.out.1.set_ t (U64 (x16 + (rotl64 x15 63 ^^^ rotl64 x15 56 ^^^ x15 >>> 7) + x7 + (rotl64 x2 45 ^^^ rotl64 x2 3 ^^^ x2 >>> 6)))).drew
                rw [part_setk _ _ _ _ _ _ HB.out.2.2 (by omega)] at this
                exact this
              · exact (HB.out.2.1.setCell (Nat.le_refl _) _).drew
            case measure => simp [intOf]; omega
        · obtain rfl : t = 80 := by omega
          rw [part_full _ _ _ _ hlk] at hS
          generalize wr = wx at *
          have hHx := H4.out.2.2.2.1.keep (hT.block gh hghl)
          have hKx := H4.out.2.2.2.2.1.keep (hT.block gk hgkl)
          have hsl : (sched512 q 80).length = 80 := hlk
          generalize hslq : sched512 q 80 = sl at *
          have hgw := hS.lt
          have H5 := Lib.hid (And.intro hS (And.intro hT (And.intro hHx (And.intro hKx (And.intro hsl hslq)))))
          clear hS hT hHx hKx hsl hslq hlk ht hge2
          have hq1 : ¬ ((80 : Int) < 80) := by omega
          go_wp2_with (at_builtin; go_must (refine wp_copy64 (.tmp 96) gh ch h0 H5.out.2.2.1 H4.out.2.2.1 rfl rfl rfl ?_; intro gv cv w4 hC))
          have hr0 : WRow U64 w4 gv (run512 kTab sl (V8.of h0) 0).list := by rw [show run512 kTab sl (V8.of h0) 0 = V8.of h0 from rfl, v8_of h0 H4.out.2.2.1]; exact hC.row
          have hC' := Lib.hid (And.intro hC.below (And.intro hC.ge hC.cap))
          have hcv : (8 : Int) ≤ cv := by have := hC.cap; omega
          clear hC
          go_loopw [11, 12] (fun v i wy => ∃ (t gv cv : Nat), t ≤ 80 ∧ i = .int .i64 t ∧ v = .slice (some ⟨gv, 0, none⟩) 8 cv ∧ WRow U64 wy gv (run512 kTab sl (V8.of h0) t).list ∧ wx.heap.size ≤ gv ∧ Below wx.heap.size wx wy) (fun _ i _ => 80 - (intOf i).toNat)
          case atStart => exact ⟨0, gv, cv, by omega, rfl, rfl, hr0, hC'.out.2.1, hC'.out.1⟩
          case round =>
            obtain ⟨t, gv, cv, ht, rfl, rfl, hW, hgv, hB⟩ := hrel
            rcases Nat.lt_or_ge t 80 with hlt3 | hge3
            · have ks := (H5.out.2.2.2.1.keep (hB.block gk (by omega))).cell t
              rw [List.getElem?_toArray, List.getElem?_map, show kTab[t]? = some (kTab.getD t 0) from get_getD kTab t (by rw [kTab_len]; exact hlt3)] at ks
              have ws := (H5.out.1.keep (hB.block wo.heap.size (by omega))).cell t
              rw [List.getElem?_toArray, List.getElem?_map, get_getD sl t (by rw [H5.out.2.2.2.2.1]; exact hlt3)] at ws
              simp only [Option.map_some] at ks ws
              have hst : run512 kTab sl (V8.of h0) (t + 1) = step512 (run512 kTab sl (V8.of h0) t) (kTab.getD t 0) (sl.getD t 0) := rfl
              generalize run512 kTab sl (V8.of h0) t = V at *
              generalize kTab.getD t 0 = kt at *
              generalize sl.getD t 0 = wt at *
              obtain ⟨va, vb, vc, vd, ve, vf, vg, vh⟩ := V
              have c0 := hW.2 0 va rfl
              have c1 := hW.2 1 vb rfl
              have c2 := hW.2 2 vc rfl
              have c3 := hW.2 3 vd rfl
              have c4 := hW.2 4 ve rfl
              have c5 := hW.2 5 vf rfl
              have c6 := hW.2 6 vg rfl
              have c7 := hW.2 7 vh rfl
              have hti : (t : Int) < 80 := by omega
              have ht0 : (0 : Int) ≤ t := by omega
              have H6 := Lib.hid hst
              have HB0 := Lib.hid hB
              clear hW hgv hB hst hr0 hlt3 ht
              go_wp2_with fail
              go_quiet ((go_at_call 80; apply Calls.quiet_of_same; first | (with_reducible exact rightL_14 _ _) | (with_reducible exact rightL_18 _ _) | (with_reducible exact rightL_41 _ _)))
              replace c0 : (wr.drewN nq).cell? ⟨gv, 0, none⟩ = _ := c0
              replace c1 : (wr.drewN nq).cell? ⟨gv, 1, none⟩ = _ := c1
              replace c2 : (wr.drewN nq).cell? ⟨gv, 2, none⟩ = _ := c2
              replace c3 : (wr.drewN nq).cell? ⟨gv, 3, none⟩ = _ := c3
              replace c4 : (wr.drewN nq).cell? ⟨gv, 4, none⟩ = _ := c4
              replace c5 : (wr.drewN nq).cell? ⟨gv, 5, none⟩ = _ := c5
              replace c6 : (wr.drewN nq).cell? ⟨gv, 6, none⟩ = _ := c6
              have HB1 := Lib.hid (bel_drewN HB0.out nq)
              clear c7 ks ws HB0
              generalize wr.drewN nq = w6 at *
              go_wp2_with fail
              go_quiet ((go_at_call 80; apply Calls.quiet_of_same; first | (with_reducible exact rightL_28 _ _) | (with_reducible exact rightL_34 _ _) | (with_reducible exact rightL_39 _ _)))
              replace c0 : (w6.drewN nq).cell? ⟨gv, 0, none⟩ = _ := c0
              replace c1 : (w6.drewN nq).cell? ⟨gv, 1, none⟩ = _ := c1
              replace c2 : (w6.drewN nq).cell? ⟨gv, 2, none⟩ = _ := c2
              replace c3 : (w6.drewN nq).cell? ⟨gv, 3, none⟩ = _ := c3
              replace c4 : (w6.drewN nq).cell? ⟨gv, 4, none⟩ = _ := c4
              replace c5 : (w6.drewN nq).cell? ⟨gv, 5, none⟩ = _ := c5
              replace c6 : (w6.drewN nq).cell? ⟨gv, 6, none⟩ = _ := c6
              have HB2 := Lib.hid (bel_drewN HB1.out nq)
              clear HB1
              generalize w6.drewN nq = w7 at *
              clear wr w6
              go_wp2_with fail
              go_still_tail 26, (by kernel_rfl)
              go_wp2_with fail
              go_roundw
              case rel =>
                refine ⟨t + 1, _, _, by omega, by go_num, rfl, ?_, HB2.out.size, (HB2.out.alloc HB2.out.size _).drew⟩
                rw [H6.out]
                exact (Blk.new w7 78 ((step512 ⟨va, vb, vc, vd, ve, vf, vg, vh⟩ kt wt).list.map U64).toArray).wrow
              case measure => simp [intOf]; omega
            · obtain rfl : t = 80 := by omega
              have hq2 : ¬ ((80 : Int) < 80) := by omega
              generalize wr = wy at *
              have hHy := H5.out.2.2.1.keep (hB.block gh (by omega))
              obtain ⟨vl, hvl⟩ : ∃ vl, (run512 kTab sl (V8.of h0) 80).list = vl := ⟨_, rfl⟩
              rw [hvl] at hW
              have hvl8 : vl.length = 8 := by rw [← hvl]; rfl
              have hnew : rTosha512 h P (k + 1) = List.zipWith (· + ·) h0 vl := by rw [rTosha512, H4.out.2.1, H4.out.1, rTakesha512, H5.out.2.2.2.2.2, hvl]
              obtain ⟨nw, hnw⟩ : ∃ nw, List.zipWith (· + ·) h0 vl = nw := ⟨_, rfl⟩
              have hnw8 : nw.length = 8 := by rw [← hnw, List.length_zipWith, H4.out.2.2.1, hvl8]; rfl
              rw [hnw] at hnew
              have H7 := Lib.hid (And.intro hW (And.intro hB (And.intro hvl8 (And.intro hnew (And.intro hnw (And.intro hnw8 hgv))))))
              have hHy0 : Blk wy gh 78 ((mixTo nw h0 0).map U64).toArray := by simpa [mixTo] using hHy
              clear hW hB hvl hvl8 hnew hnw hnw8 hHy hr0 hge3 ht hgv
              go_wp2_with fail
              go_loopw [17] (fun i wz => ∃ t : Nat, t ≤ 8 ∧ i = .int .i64 t ∧ Blk wz gh 78 ((mixTo nw h0 t).map U64).toArray ∧ Turn [gh] wy wz) (fun i _ => 8 - (intOf i).toNat)
              case atStart => exact ⟨0, by omega, rfl, hHy0, Turn.refl _ _⟩
              case round =>
                obtain ⟨t, ht, rfl, hM, hT⟩ := hrel
                clear hHy0
                rcases Nat.lt_or_ge t 8 with hlt4 | hge4
                · obtain ⟨x, hx⟩ : ∃ x, h0[t]? = some x := ⟨_, List.getElem?_eq_getElem (by rw [H4.out.2.2.1]; exact hlt4)⟩
                  obtain ⟨y, hy⟩ : ∃ y, vl[t]? = some y := ⟨_, List.getElem?_eq_getElem (by rw [H7.out.2.2.1]; exact hlt4)⟩
                  have hxy : nw[t]? = some (x + y) := by rw [← H7.out.2.2.2.2.1, List.getElem?_zipWith, hx, hy]
                  have ch0 := hM.cell t
                  rw [List.getElem?_toArray, List.getElem?_map, mixTo_get _ _ _ (by rw [H7.out.2.2.2.2.2.1]; omega), hx] at ch0
                  simp only [Option.map_some] at ch0
                  have cv0 := ((H7.out.1.keep hT.size (hT.block gv H7.out.1.1 (by have := H7.out.2.2.2.2.2.2; simp; omega))).2 t y hy)
                  have fh0 := hM.frozen t
                  have hM2 := hM.set_ t (U64 (x + y))
                  rw [List.setIfInBounds_toArray, ← List.map_set, mixTo_set _ _ _ _ hxy (by rw [H4.out.2.2.1]; exact hlt4)] at hM2
                  have H8 := Lib.hid (And.intro hM2 (hT.setCell (p := ⟨gh, t, none⟩) (.inl (by simp)) (U64 (x + y))))
                  have hti : (t : Int) < 8 := by omega
                  have ht0 : (0 : Int) ≤ t := by omega
                  clear hM hT hM2 hx hy hxy hlt4 ht
                  go_wp2_with fail
                  go_still_tail 10, (by kernel_rfl)
                  go_wp2_with fail
                  go_roundw
                  case rel => exact ⟨t + 1, by omega, by go_num, H8.out.1.drew, H8.out.2.drew⟩
                  case measure => simp [intOf]; omega
                · obtain rfl : t = 8 := by omega
                  have hq3 : ¬ ((8 : Int) < 8) := by omega
                  have hdone : mixTo nw h0 8 = nw := mixTo_done _ _ _ (by rw [H7.out.2.2.2.2.2.1]; omega) (fun i hi => by rw [List.getElem?_eq_none (by rw [H7.out.2.2.2.2.2.1]; exact hi), List.getElem?_eq_none (by rw [H4.out.2.2.1]; exact hi)])
                  rw [hdone] at hM
                  have hTw : Turn [gh] wo wr := (Turn.of_below [gh] (H5.out.2.1.trans (H7.out.2.1.mono (by omega)))).trans hT (by simp)
                  have hge : ∀ ad, some (⟨b, off, none⟩ : Addr) = some ad → w.heap.size ≤ ad.block := H3.out.2.1.ge
                  have hrd := H3.out.2.1.rd.turn hTw (fun ad had => by have := hge ad had; have := H3.out.2.1.hlt; simp; omega)
                  have hcut := hrd.cut (k := 128) (by omega)
                  rw [List.drop_drop, show k * 128 + 128 = (k + 1) * 128 from by omega] at hcut
                  have hTT := H3.out.2.1.turn.trans hTw (by simp)
                  have hKw := (H4.out.2.2.2.2.1.turn hTw (by have := H3.out.2.1.hlt; have := H3.out.2.1.kge; simp; omega))
                  rw [← H7.out.2.2.2.1] at hM
                  have hszw : w.heap.size ≤ wr.heap.size := hTT.size
                  have H9 := Lib.hid (And.intro hM (And.intro hTT (And.intro hKw (And.intro hcut hge))))
                  clear hM hT hdone hTw hge hrd hcut hTT hKw hge4 ht
                  rcases Nat.lt_or_ge 128 c3 with hcl | hcl
                  · have hci : (128 : Int) < c3 := by omega
                    go_wp2_with fail
                    go_roundw
                    case rel =>
                      have hcut := H9.out.2.2.2.1
                      rw [if_neg (by omega)] at hcut
                      refine ⟨k + 1, _, _, _, rfl, by omega, ?_, ⟨hcut, fun ad had => by cases had; exact H9.out.2.2.2.2 ⟨b, off, none⟩ rfl, H9.out.1, H9.out.2.2.1, H3.out.2.1.kge, H3.out.2.1.hlt, H9.out.2.1, hszw⟩⟩
                      rw [H3.out.1]; have : N - k = (N - (k + 1)) + 1 := by omega
                      rw [this, Nat.add_mul]; omega
                    case measure => simp [sliceLen]; omega
                  · obtain rfl : c3 = 128 := by omega
                    obtain rfl : n3 = 128 := by omega
                    go_wp2_with fail
                    go_roundw
                    case rel =>
                      have hcut := H9.out.2.2.2.1
                      rw [if_pos rfl] at hcut
                      refine ⟨k + 1, _, _, _, rfl, by omega, ?_, ⟨hcut, H9.out.2.2.2.2, H9.out.1, H9.out.2.2.1, H3.out.2.1.kge, H3.out.2.1.hlt, H9.out.2.1, hszw⟩⟩
                      have := H3.out.1; have : N - k = (N - (k + 1)) + 1 := by omega
                      omega
                    case measure => simp [sliceLen]
    · obtain rfl : k = N := by omega
      have hn0 : n3 = 0 := by rw [hn]; omega
      subst hn0
      have h8 : (rTosha512 h P k).length = 8 := rTosha512_len h P k HH.out.2.2.2
      have hHb := hO.hblk
      have H1 := Lib.hid (And.intro hO (And.intro h8 hHb))
      obtain ⟨hs, hhs⟩ : ∃ hs, rTosha512 h P k = hs := ⟨_, rfl⟩
      rw [hhs] at H1
      have Hhs := Lib.hid hhs
      clear hn hO h8 hHb hge hk hhs
      generalize wr = wx at *
      have hsx := Lib.hid H1.out.1.size
      have hgx := H1.out.2.2.lt
      go_wp2_with fail
      go_loopw [18, 19] (fun v i wy => ∃ (t : Nat) (A : Option Addr) (n c : Nat), t ≤ 8 ∧ i = .int .i64 t ∧ v = .slice A n c ∧ Own wy wx.heap.size (.slice A n c) ((hs.take t).flatMap bytes64) ∧ Below wx.heap.size wx wy) (fun _ i _ => 8 - (intOf i).toNat)
      case atStart => exact ⟨0, _, _, _, by omega, rfl, rfl, Own.nil _ _, Below.refl _ _⟩
      case round =>
        obtain ⟨t, A4, n4, c4, ht, rfl, rfl, hO4, hB4⟩ := hrel
        have hsy : wx.heap.size ≤ wr.heap.size := hB4.size
        rcases Nat.lt_or_ge t 8 with hlt | hge
        · obtain ⟨x, hx⟩ : ∃ x, hs[t]? = some x := ⟨_, List.getElem?_eq_getElem (by rw [H1.out.2.1]; exact hlt)⟩
          have cx := (H1.out.2.2.keep (hB4.block gh hgx)).cell t
          rw [List.getElem?_toArray, List.getElem?_map, hx] at cx
          simp only [Option.map_some] at cx
          have hl4 : ((hs.take t).flatMap bytes64).length = t * 8 := by rw [flat_len _ _ 8 (fun _ => rfl), List.length_take, H1.out.2.1]; congr 1; omega
          have hfl : (hs.take (t + 1)).flatMap bytes64 = (hs.take t).flatMap bytes64 ++ bytes64 x := by rw [List.take_add_one, hx]; simp
          have H2 := Lib.hid (And.intro hO4 (And.intro hB4 (And.intro hl4 (And.intro hfl hsy))))
          have hti : (t : Int) < 8 := by omega
          have ht0 : (0 : Int) ≤ t := by omega
          have hW : W32 (wr.alloc (.cells #[U32 (x >>> 32).toUInt32, U32 x.toUInt32] 75)).drew wr.heap.size [(x >>> 32).toUInt32, x.toUInt32] := (Blk.new wr 75 ([(x >>> 32).toUInt32, x.toUInt32].map U32).toArray).wrow
          have HW := Lib.hid (words_any wr.heap.size 2 2 _ _ hW rfl (by omega))
          clear hO4 hB4 hl4 hfl hx hW hlt ht
          go_wp2_with fail
          go_still_tail 11, (by kernel_rfl)
          go_wp2_with fail
          with_reducible refine HW.out.mono ?_
          rintro e w5 ⟨v5, rfl, hO5, hb5⟩
          obtain ⟨A5, c5, rfl, hr5, hge5⟩ := hO5.shape
          have hb5' : Below wr.heap.size wr w5 := (((Below.refl _ wr).alloc (Nat.le_refl _) (.cells #[U32 (x >>> 32).toUInt32, U32 x.toUInt32] 75)).drew).trans (hb5.mono (by simp))
          have hO5' := H2.out.1.below hb5'
          have hsz5 : wx.heap.size ≤ w5.heap.size := Nat.le_trans H2.out.2.2.2.2 hb5'.size
          have H5 := Lib.hid (And.intro hO5' (And.intro hr5 (And.intro hsz5 (H2.out.2.1.trans (hb5'.mono H2.out.2.1.size)))))
          clear hO5 hb5 hr5 hge5 hb5' hO5' hsz5 HW
          go_wp2_with (at_builtin; go_must (refine wp_app2 (.tmp 229) (.tmp 230) wx.heap.size _ ((hs.take t).flatMap bytes64) H5.out.1 H5.out.2.2.1 A5 _ c5 _ H5.out.2.1 (by rw [H2.out.2.2.1]; simp [bytes32]; omega) rfl rfl rfl rfl ?_; intro A7 n7 c7 w7 hn7 hG7))
          go_roundw
          case rel =>
            refine ⟨t + 1, _, _, _, by omega, by go_num, rfl, ?_, H5.out.2.2.2.trans hG7.below⟩
            rw [H2.out.2.2.2.1, ← bytes_two]
            simpa using hG7.own
          case measure => simp [intOf]; omega
        · obtain rfl : t = 8 := by omega
          have hq : ¬ ((8 : Int) < 8) := by omega
          have H2 := Lib.hid (And.intro hO4 hB4)
          clear hO4 hB4 hge ht
          go_wp2_with fail
          go_ret
          refine ⟨_, rfl, ?_, H1.out.1.turn.trans (Turn.of_below [] H2.out.2) (by simp)⟩
          have := H2.out.1.mono hsx.out
          rw [H0.out.2.1, Hhs.out]
          rwa [List.take_of_length_le (by rw [H1.out.2.1]; omega)] at this
end Go.Proofs.YtddemlajfbagdaaDoor
