/-
  Contract of the reference's sha1.
  Numbers of 64 bits out of two of 32 bits; their bytes.
-/
import Derived.Test.YtddemlajfbagdaaDoorR256
import Derived.Test.YtddemlajfbagdaaDoorRk
namespace Go.Proofs.YtddemlajfbagdaaDoor
open Go.RowKit

/-- The state behind k blocks. -/
def v5of (h : List UInt32) : V5 := ⟨h.getD 0 0, h.getD 1 0, h.getD 2 0, h.getD 3 0, h.getD 4 0⟩
def rTake1 (h : List UInt32) (q : List UInt8) : List UInt32 := List.zipWith (· + ·) h (run1 (sched1 q 80) (v5of h) 80).list
def rTo1 (h : List UInt32) (P : List UInt8) : Nat → List UInt32
  | 0 => h
  | k + 1 => rTake1 (rTo1 h P k) (P.drop (k * 64))
theorem rTo1_len (h : List UInt32) (P : List UInt8) (k : Nat) (h5 : h.length = 5) : (rTo1 h P k).length = 5 := by
  induction k with
  | zero => exact h5
  | succ k ih => rw [rTo1, rTake1, List.length_zipWith, ih, V5.list_len]; rfl
def sha1H : List UInt32 := [0x67452301, 0xefcdab89, 0x98badcfe, 0x10325476, 0xc3d2e1f0]
/-- Between two blocks. -/
structure Out1 (w wr : World) (P : List UInt8) (k : Nat) (A : Option Addr) (n c : Nat) : Prop where
  rd : Rd wr A n c (P.drop (k * 64))
  ge : ∀ ad, A = some ad → w.heap.size < ad.block
  hblk : Blk wr w.heap.size 75 ((rTo1 sha1H P k).map U32).toArray
  turn : Below w.heap.size w wr
  size : w.heap.size < wr.heap.size
theorem left_1 (x : UInt32) (w : World) : Calls Tryd.prog 75 #[U32 x, .int .u64 1] w fun e w' => e = .returned (U32 (rotl32 x 1)) ∧ w' = w := (left_any x 1 w (by decide) (by decide)).mono fun _ _ h => ⟨h.1, h.2.symm⟩
theorem left_5 (x : UInt32) (w : World) : Calls Tryd.prog 75 #[U32 x, .int .u64 5] w fun e w' => e = .returned (U32 (rotl32 x 5)) ∧ w' = w := (left_any x 5 w (by decide) (by decide)).mono fun _ _ h => ⟨h.1, h.2.symm⟩
theorem left_30 (x : UInt32) (w : World) : Calls Tryd.prog 75 #[U32 x, .int .u64 30] w fun e w' => e = .returned (U32 (rotl32 x 30)) ∧ w = w' := left_any x 30 w (by decide) (by decide)

theorem f1_cases (t : Nat) (v : V5) (h : t < 80) : (t < 20 → f1 t v = (v.b &&& v.c ||| ~~~v.b &&& v.d)) ∧ (20 ≤ t → t < 40 → f1 t v = (v.b ^^^ v.c ^^^ v.d)) ∧ (40 ≤ t → t < 60 → f1 t v = (v.b &&& v.c ||| v.b &&& v.d ||| v.c &&& v.d)) ∧ (60 ≤ t → f1 t v = (v.b ^^^ v.c ^^^ v.d)) := by
  unfold f1
  refine ⟨fun h1 => ?_, fun h1 h2 => ?_, fun h1 h2 => ?_, fun h1 => ?_⟩
  · rw [if_pos (by omega)]
  · rw [if_neg (by omega), if_neg (by omega)]
  · rw [if_neg (by omega), if_pos (by omega)]
  · rw [if_neg (by omega), if_neg (by omega)]
theorem g1_cases (t : Nat) (h : t < 80) : (t < 20 → g1 t = 0x5a827999) ∧ (20 ≤ t → t < 40 → g1 t = 0x6ed9eba1) ∧ (40 ≤ t → t < 60 → g1 t = 0x8f1bbcdc) ∧ (60 ≤ t → g1 t = 0xca62c1d6) := by
  unfold g1
  refine ⟨fun h1 => ?_, fun h1 h2 => ?_, fun h1 h2 => ?_, fun h1 => ?_⟩
  · rw [if_pos (by omega)]
  · rw [if_neg (by omega), if_pos (by omega)]
  · rw [if_neg (by omega), if_neg (by omega), if_pos (by omega)]
  · rw [if_neg (by omega), if_neg (by omega), if_neg (by omega)]
set_option maxRecDepth 100000 in
set_option maxHeartbeats 4000000 in
theorem rsha1_any (A : Option Addr) (m c : Nat) (l : List UInt8) (w : World) (hr : Rd w A m c l) (hl : l.length ≤ 140737488352000) :
    Calls Tryd.prog 53 #[.slice A m c] w fun e w' => ∃ v, e = .returned v ∧ Own w' w.heap.size v ((rTo1 sha1H (rpad 64 l) ((rpad 64 l).length / 64)).flatMap bytes32) ∧ Below w.heap.size w w' := by
  have HH := Lib.hid (And.intro hr hl)
  have hPl := rpad_len_64 l
  clear hr hl
  have hb0 : Below w.heap.size w (w.alloc (.cells (sha1H.map U32).toArray 75)) := (Below.refl _ _).alloc (Nat.le_refl _) _
  have hB0 : Blk (w.alloc (.cells (sha1H.map U32).toArray 75)) w.heap.size 75 (sha1H.map U32).toArray := Blk.new _ _ _
  have HB0 := Lib.hid (And.intro hb0 hB0)
  clear hb0 hB0
  go_enter Tryd.func53, Tryd.ntmps53
  go_wp2_with fail
  have hp := pad_64 A m c l (w.alloc (.cells (sha1H.map U32).toArray 75)) (HH.out.1.below HB0.out.1) HH.out.2
  refine hp.mono ?_
  rintro e w2 ⟨v, rfl, hO, hb2⟩
  obtain ⟨A2, c2, rfl, hr2, hge2⟩ := hO.shape
  generalize hP : rpad 64 l = P at *
  obtain ⟨N, hN⟩ := hPl
  have hN' : P.length / 64 = N := by rw [hN]; omega
  have hszz : (w.alloc (.cells (sha1H.map U32).toArray 75)).heap.size = w.heap.size + 1 := by simp
  rw [hszz] at hge2 hb2
  have hO0 : Out1 w w2 P 0 A2 P.length c2 := ⟨by simpa using hr2, fun ad had => by have := hge2 ad had; omega, by rw [rTo1]; exact HB0.out.2.keep (hb2.block _ (by omega)), HB0.out.1.trans (hb2.mono (by omega)), by have := hb2.size; rw [hszz] at this; omega⟩
  have H0 := Lib.hid (And.intro hN (And.intro hN' hO0))
  clear hO hb2 hr2 hge2 hN hN' hO0 hp hszz
  go_wp2_with fail
  go_loopw [4] (fun v wr => ∃ k A n c, v = .slice A n c ∧ k ≤ N ∧ n = (N - k) * 64 ∧ Out1 w wr P k A n c) (fun v _ => sliceLen v)
  case atStart => exact ⟨0, _, _, _, rfl, by omega, by rw [H0.out.1]; omega, H0.out.2.2⟩
  case round =>
    obtain ⟨k, A3, n3, c3, rfl, hk, hn, hO⟩ := hrel
    rcases Nat.lt_or_ge k N with hlt | hge
    · have hn3 : 64 ≤ n3 := by rw [hn]; have h1 : 1 ≤ N - k := (by omega); omega
      obtain ⟨b, off, rfl, hat⟩ := hO.rd.addr (by omega)
      have hn0 : decide (0 < n3) = true := decide_eq_true (by omega)
      have hn64 : (64 : Int) ≤ n3 := by omega
      have hc3 : n3 ≤ c3 := hO.rd.2.1
      have hc3m := hO.rd.2.2.1
      unfold maxLen at hc3m
      have hql : (P.drop (k * 64)).length = n3 := hO.rd.1.symm
      have H3 := Lib.hid (And.intro hn (And.intro hO (And.intro hat hql)))
      clear hn hO hat hql H0
      generalize wr = wo at *
      have hmk := make32'
      go_wp2_with fail
      obtain ⟨q, hq⟩ : ∃ q, P.drop (k * 64) = q := ⟨_, rfl⟩
      obtain ⟨h0, hh0⟩ : ∃ h0, rTo1 sha1H P k = h0 := ⟨_, rfl⟩
      have hh8 : h0.length = 5 := by rw [← hh0]; exact rTo1_len sha1H P k rfl
      have hHb := H3.out.2.1.hblk
      rw [hh0] at hHb
      have hat : At wo b off q := by rw [← hq]; exact H3.out.2.2.1
      have hql : q.length = n3 := by rw [← hq]; exact H3.out.2.2.2
      have hghl : w.heap.size < wo.heap.size := H3.out.2.1.size
      have H4 := Lib.hid (And.intro hq (And.intro hh0 (And.intro hh8 (And.intro hHb (And.intro hat hql)))))
      clear hq hh0 hh8 hHb hat hql
      have hb0 : Blk (wo.alloc (.cells (part U32 (.int .u32 0) [] 80) 75)) wo.heap.size 75 (part U32 (.int .u32 0) [] 80) := Blk.new wo _ _
      have hT0 : Below wo.heap.size wo (wo.alloc (.cells (part U32 (.int .u32 0) [] 80) 75)) := (Below.refl _ _).alloc (Nat.le_refl _) _
      go_loopw [6] (fun i wx => ∃ t : Nat, t ≤ 80 ∧ i = .int .i64 t ∧ Blk wx wo.heap.size 75 (part U32 (.int .u32 0) (sched1 q t) 80) ∧ Below wo.heap.size wo wx) (fun i _ => 80 - (intOf i).toNat)
      case atStart => exact ⟨0, by omega, rfl, hb0, hT0⟩
      case round =>
        obtain ⟨t, ht, rfl, hS, hT⟩ := hrel
        clear hb0 hT0 hmk
        have hlk : (sched1 q t).length = t := schedTo_len _ _ _
        rcases Nat.lt_or_ge t 80 with hlt2 | hge2
        · rcases Nat.lt_or_ge t 16 with h16 | h16
          · have hs := Lib.hid (show sched1 q (t + 1) = sched1 q t ++ [word32 q (4 * t)] by show _ ++ [_] = _; rw [if_pos (by omega)]; rfl)
            have ck := (hS.cell t).trans (part_next U32 (.int .u32 0) (sched1 q t) 80 t hlk hlt2)
            have fk := hS.frozen t
            have hat := ((H4.out.2.2.2.2.1.keep hT.size (hT.block b H4.out.2.2.2.2.1.1)).drop (4 * t))
            have hG := Lib.hid (word_any b (off + 4 * t) (n3 - 4 * t) (c3 - 4 * t) (q.drop (4 * t)) wr hat (by rw [List.length_drop, H4.out.2.2.2.2.2]) (by omega))
            have hw0 : word32 (q.drop (4 * t)) 0 = word32 q (4 * t) := by simp [word32, List.getD]
            rw [← hw0] at hs
            clear hat hw0
            have HB := Lib.hid (And.intro hS (And.intro hT hlk))
            have hti : (t : Int) < 16 := by omega
            clear hS hT hlk hlt2 h16 ht
            go_wp2_with fail
            refine hG.out.mono ?_
            rintro e w' ⟨rfl, nq, rfl⟩
            have ck : (wr.drewN nq).cell? ⟨wo.heap.size, t, none⟩ = _ := ck
            have fk : (wr.drewN nq).frozen? ⟨wo.heap.size, t, none⟩ = false := fk
            go_wp2_with fail
            go_roundw
            case rel =>
              refine ⟨t + 1, by omega, by go_num, ?_, ?_⟩
              · rw [hs.out]
                have := (HB.out.1.drewN nq).set_ t (U32 (word32 (q.drop (4 * t)) 0))
                rw [part_setk _ _ _ _ _ _ HB.out.2.2 (by omega)] at this
                exact this
              · exact (bel_drewN HB.out.2.1 nq).setCell (Nat.le_refl _) _
            case measure => simp [intOf]; omega
          · have hs := Lib.hid (show sched1 q (t + 1) = sched1 q t ++ [next1 (sched1 q t) t] by show _ ++ [_] = _; rw [if_neg (by omega)]; rfl)
            have c16 := (hS.cell (t - 16)).trans (part_getD _ _ _ _ _ 0 (by omega))
            have c14 := (hS.cell (t - 14)).trans (part_getD _ _ _ _ _ 0 (by omega))
            have c8 := (hS.cell (t - 8)).trans (part_getD _ _ _ _ _ 0 (by omega))
            have c3' := (hS.cell (t - 3)).trans (part_getD _ _ _ _ _ 0 (by omega))
            have ck := (hS.cell t).trans (part_next U32 (.int .u32 0) (sched1 q t) 80 t hlk hlt2)
            have fk := hS.frozen t
            have HB := Lib.hid (And.intro hS (And.intro hT hlk))
            unfold next1 at hs
            generalize (sched1 q t).getD (t - 16) 0 = x16 at *
            generalize (sched1 q t).getD (t - 14) 0 = x14 at *
            generalize (sched1 q t).getD (t - 8) 0 = x8 at *
            generalize (sched1 q t).getD (t - 3) 0 = x3 at *
            have hti : (t : Int) < 80 := by omega
            have ht16 : (16 : Int) ≤ t := by omega
            clear hS hT hlk hlt2 h16 ht
            go_wp2_with fail
            have ga3 : IntKind.i64.wrap ((t : Int) - 3) = (t : Int) - 3 := IntWalk.i64_in _ (by omega)
            have gb3 : ((t : Int) - 3).toNat = t - 3 := by omega
            have gd3 : (3 : Int) ≤ t := by omega
            have ge3 : (t : Int) - 3 < 80 := by omega
            have ga8 : IntKind.i64.wrap ((t : Int) - 8) = (t : Int) - 8 := IntWalk.i64_in _ (by omega)
            have gb8 : ((t : Int) - 8).toNat = t - 8 := by omega
            have gd8 : (8 : Int) ≤ t := by omega
            have ge8 : (t : Int) - 8 < 80 := by omega
            have ga14 : IntKind.i64.wrap ((t : Int) - 14) = (t : Int) - 14 := IntWalk.i64_in _ (by omega)
            have gb14 : ((t : Int) - 14).toNat = t - 14 := by omega
            have gd14 : (14 : Int) ≤ t := by omega
            have ge14 : (t : Int) - 14 < 80 := by omega
            have ga16 : IntKind.i64.wrap ((t : Int) - 16) = (t : Int) - 16 := IntWalk.i64_in _ (by omega)
            have gb16 : ((t : Int) - 16).toNat = t - 16 := by omega
            have gd16 : (16 : Int) ≤ t := by omega
            have ge16 : (t : Int) - 16 < 80 := by omega
            refine wp_region_still_tail 27 (by kernel_rfl) (by kernel_rfl) ?_
            simp only [List.take_succ_cons, List.take_zero, List.drop_succ_cons, List.drop_zero]
            repeat (first | still_step | (refine wpStill_step (fun K hK => ?_); go_simp; apply Exists.intro; refine ⟨?_, ?_⟩; (with_reducible exact left_1 _ _); refine hK _ ?_; clear hK K))
            refine wpStill_nil ?_
            go_wp2_with fail
            clear ga3 gb3 gd3 ge3 ga8 gb8 gd8 ge8 ga14 gb14 gd14 ge14 ga16 gb16 gd16 ge16
            go_roundw
            case rel =>
              refine ⟨t + 1, by omega, by go_num, ?_, ?_⟩
              · rw [hs.out]
                have := (HB.out.1.set_ t (U32 (rotl32 (x3 ^^^ x8 ^^^ x14 ^^^ x16) 1))).drew
                rw [part_setk _ _ _ _ _ _ HB.out.2.2 (by omega)] at this
                exact this
              · exact (HB.out.2.1.setCell (Nat.le_refl _) _).drew
            case measure => simp [intOf]; omega
        · obtain rfl : t = 80 := by omega
          rw [part_full _ _ _ _ hlk] at hS
          generalize wr = wx at *
          have hHx := H4.out.2.2.2.1.keep (hT.block w.heap.size hghl)
          have hsl : (sched1 q 80).length = 80 := hlk
          generalize hslq : sched1 q 80 = sl at *
          have hgw := hS.lt
          obtain ⟨ha, hb, hc, hd, he, hh5⟩ : ∃ a b c d e, h0 = [a, b, c, d, e] := by
            have := H4.out.2.2.1
            match h0, this with
            | [a, b, c, d, e], _ => exact ⟨_, _, _, _, _, rfl⟩
          rw [hh5] at hHx
          have c0 := hHx.cell 0
          have c1 := hHx.cell 1
          have c2 := hHx.cell 2
          have c3' := hHx.cell 3
          have c4 := hHx.cell 4
          simp only [List.map_cons, List.map_nil, List.getElem?_toArray, List.getElem?_cons_zero, List.getElem?_cons_succ] at c0 c1 c2 c3' c4
          have H5 := Lib.hid (And.intro hS (And.intro hT (And.intro hHx (And.intro hsl (And.intro hslq hh5)))))
          clear hS hT hHx hsl hslq hlk ht hge2 hh5
          have hq1 : ¬ ((80 : Int) < 80) := by omega
          go_wp2_with fail
          go_quiet (fail)
          replace c1 : (wx.drewN nq).cell? ⟨w.heap.size, 1, none⟩ = _ := c1
          have HBx := Lib.hid (bel_drewN (Below.refl wx.heap.size wx) nq)
          clear c0 c2 c3' c4
          generalize wx.drewN nq = wy0 at *
          go_wp2_with fail
          have hst0 : ∃ V, V = run1 sl (v5of [ha, hb, hc, hd, he]) 0 ∧ V.a = ha ∧ V.b = hb ∧ V.c = hc ∧ V.d = hd ∧ V.e = he := ⟨_, rfl, rfl, rfl, rfl, rfl, rfl⟩
          have Hst0 := Lib.hid hst0
          clear hst0
          go_loopw [7, 8, 9, 10, 11, 12] (fun a cc d e b i wy => ∃ (t : Nat) (V : V5), t ≤ 80 ∧ i = .int .i64 t ∧ a = U32 V.a ∧ cc = U32 V.c ∧ d = U32 V.d ∧ e = U32 V.e ∧ b = U32 V.b ∧ V = run1 sl (v5of [ha, hb, hc, hd, he]) t ∧ Below wx.heap.size wx wy) (fun _ _ _ _ _ i _ => 80 - (intOf i).toNat)
          case atStart => exact ⟨0, _, by omega, rfl, rfl, rfl, rfl, rfl, rfl, rfl, HBx.out⟩
          case round =>
            obtain ⟨t, V, ht, rfl, rfl, rfl, rfl, rfl, rfl, hV, hB⟩ := hrel
            rcases Nat.lt_or_ge t 80 with hlt3 | hge3
            · have ws := (H5.out.1.keep (hB.block wo.heap.size (by omega))).cell t
              rw [List.getElem?_toArray, List.getElem?_map, get_getD sl t (by rw [H5.out.2.2.2.1]; exact hlt3)] at ws
              simp only [Option.map_some] at ws
              have hst : run1 sl (v5of [ha, hb, hc, hd, he]) (t + 1) = step1 t V (sl.getD t 0) := by rw [hV]; rfl
              generalize sl.getD t 0 = wt at *
              obtain ⟨va, vb, vc, vd, ve⟩ := V
              have H6 := Lib.hid (And.intro hst hB)
              have hti : (t : Int) < 80 := by omega
              have ht0 : (0 : Int) ≤ t := by omega
              have hf := f1_cases t ⟨va, vb, vc, vd, ve⟩ hlt3
              unfold step1 at H6
              clear hV hB hst
              rcases Nat.lt_or_ge t 20 with h20 | h20
              · have n20 : ¬ ((20 : Int) ≤ t) := by omega
                have n40 : ¬ ((40 : Int) ≤ t) := by omega
                have n60 : ¬ ((60 : Int) ≤ t) := by omega
                rw [hf.1 h20] at H6
                rw [(g1_cases t hlt3).1 h20] at H6
                have hle := Lib.hid (show t + 1 ≤ 80 from hlt3)
                clear hf h20 hlt3 ht
                go_wp2_with fail
                go_quiet ((go_at_call 75; apply Calls.quiet_of_same; with_reducible exact left_5 _ _))
                have HB7 := Lib.hid (bel_drewN H6.out.2 nq)
                clear ws
                generalize wr.drewN nq = w7 at *
                go_wp2_with (go_at_call 75; with_reducible refine (left_30 _ _).mono ?_; rintro e w' ⟨rfl, rfl⟩)
                go_roundw
                case rel => exact ⟨t + 1, _, hle.out, by go_num, rfl, rfl, rfl, rfl, rfl, H6.out.1.symm, HB7.out⟩
                case measure => have := hle.out; simp [intOf]; omega
              · rcases Nat.lt_or_ge t 40 with h40 | h40
                · have n40 : ¬ ((40 : Int) ≤ t) := by omega
                  have n60 : ¬ ((60 : Int) ≤ t) := by omega
                  have y20 : (20 : Int) ≤ t := by omega
                  rw [hf.2.1 h20 h40] at H6
                  rw [(g1_cases t hlt3).2.1 h20 h40] at H6
                  have hle := Lib.hid (show t + 1 ≤ 80 from hlt3)
                  clear hf h20 h40 hlt3 ht
                  go_wp2_with fail
                  go_quiet ((go_at_call 75; apply Calls.quiet_of_same; with_reducible exact left_5 _ _))
                  have HB7 := Lib.hid (bel_drewN H6.out.2 nq)
                  clear ws
                  generalize wr.drewN nq = w7 at *
                  go_wp2_with (go_at_call 75; with_reducible refine (left_30 _ _).mono ?_; rintro e w' ⟨rfl, rfl⟩)
                  go_roundw
                  case rel => exact ⟨t + 1, _, hle.out, by go_num, rfl, rfl, rfl, rfl, rfl, H6.out.1.symm, HB7.out⟩
                  case measure => have := hle.out; simp [intOf]; omega
                · rcases Nat.lt_or_ge t 60 with h60 | h60
                  · have n60 : ¬ ((60 : Int) ≤ t) := by omega
                    have y40 : (40 : Int) ≤ t := by omega
                    rw [hf.2.2.1 h40 h60] at H6
                    rw [(g1_cases t hlt3).2.2.1 h40 h60] at H6
                    have hle := Lib.hid (show t + 1 ≤ 80 from hlt3)
                    clear hf h20 h40 h60 hlt3 ht
                    go_wp2_with fail
                    go_quiet ((go_at_call 75; apply Calls.quiet_of_same; with_reducible exact left_5 _ _))
                    have HB7 := Lib.hid (bel_drewN H6.out.2 nq)
                    clear ws
                    generalize wr.drewN nq = w7 at *
                    go_wp2_with (go_at_call 75; with_reducible refine (left_30 _ _).mono ?_; rintro e w' ⟨rfl, rfl⟩)
                    go_roundw
                    case rel => exact ⟨t + 1, _, hle.out, by go_num, rfl, rfl, rfl, rfl, rfl, H6.out.1.symm, HB7.out⟩
                    case measure => have := hle.out; simp [intOf]; omega
                  · have y60 : (60 : Int) ≤ t := by omega
                    rw [hf.2.2.2 h60] at H6
                    rw [(g1_cases t hlt3).2.2.2 h60] at H6
                    have hle := Lib.hid (show t + 1 ≤ 80 from hlt3)
                    clear hf h20 h40 h60 hlt3 ht
                    go_wp2_with fail
                    go_quiet ((go_at_call 75; apply Calls.quiet_of_same; with_reducible exact left_5 _ _))
                    have HB7 := Lib.hid (bel_drewN H6.out.2 nq)
                    clear ws
                    generalize wr.drewN nq = w7 at *
                    go_wp2_with (go_at_call 75; with_reducible refine (left_30 _ _).mono ?_; rintro e w' ⟨rfl, rfl⟩)
                    go_roundw
                    case rel => exact ⟨t + 1, _, hle.out, by go_num, rfl, rfl, rfl, rfl, rfl, H6.out.1.symm, HB7.out⟩
                    case measure => have := hle.out; simp [intOf]; omega
            · obtain rfl : t = 80 := by omega
              have hq2 : ¬ ((80 : Int) < 80) := by omega
              generalize wr = wy at *
              have hHy := H5.out.2.2.1.keep (hB.block w.heap.size (by omega))
              have hnew : rTo1 sha1H P (k + 1) = [ha + V.a, hb + V.b, hc + V.c, hd + V.d, he + V.e] := by rw [rTo1, H4.out.2.1, H4.out.1, rTake1, H5.out.2.2.2.2.1, H5.out.2.2.2.2.2, ← hV]; rfl
              obtain ⟨va, vb, vc, vd, ve⟩ := V
              have c0 := hHy.cell 0
              have c1 := hHy.cell 1
              have c2 := hHy.cell 2
              have c3' := hHy.cell 3
              have c4 := hHy.cell 4
              have f0 := hHy.frozen 0
              have f1' := hHy.frozen 1
              have f2 := hHy.frozen 2
              have f3 := hHy.frozen 3
              have f4 := hHy.frozen 4
              simp only [List.map_cons, List.map_nil, List.getElem?_toArray, List.getElem?_cons_zero, List.getElem?_cons_succ] at c0 c1 c2 c3' c4
              have hB6 := (((((hHy.set_ 0 (U32 (ha + va))).set_ 1 (U32 (hb + vb))).set_ 2 (U32 (hc + vc))).set_ 3 (U32 (hd + vd))).set_ 4 (U32 (he + ve)))
              have hT6 : Turn [w.heap.size] wo (((((wy.setCell ⟨w.heap.size, 0, none⟩ (U32 (ha + va))).setCell ⟨w.heap.size, 1, none⟩ (U32 (hb + vb))).setCell ⟨w.heap.size, 2, none⟩ (U32 (hc + vc))).setCell ⟨w.heap.size, 3, none⟩ (U32 (hd + vd))).setCell ⟨w.heap.size, 4, none⟩ (U32 (he + ve))) :=
                (((((Turn.of_below [w.heap.size] (H5.out.2.1.trans (hB.mono (by omega)))).setCell (p := ⟨w.heap.size, 0, none⟩) (.inl (by simp)) _).setCell (p := ⟨w.heap.size, 1, none⟩) (.inl (by simp)) _).setCell (p := ⟨w.heap.size, 2, none⟩) (.inl (by simp)) _).setCell (p := ⟨w.heap.size, 3, none⟩) (.inl (by simp)) _).setCell (p := ⟨w.heap.size, 4, none⟩) (.inl (by simp)) _
              have hge : ∀ ad, some (⟨b, off, none⟩ : Addr) = some ad → w.heap.size < ad.block := H3.out.2.1.ge
              have hrd := H3.out.2.1.rd.turn hT6 (fun ad had => by have := hge ad had; simp; omega)
              have hcut := hrd.cut (k := 64) (by omega)
              rw [List.drop_drop, show k * 64 + 64 = (k + 1) * 64 from by omega] at hcut
              have hBB := below_turn H3.out.2.1.turn hT6 (by simp) (Nat.le_of_lt hghl)
              have H7 := Lib.hid (And.intro hB6 (And.intro hBB (And.intro hnew (And.intro hcut hge))))
              clear hHy hB hV hB6 hT6 hrd hcut hBB hnew hge hge3 ht
              rcases Nat.lt_or_ge 64 c3 with hcl | hcl
              · have hci : (64 : Int) < c3 := by omega
                go_wp2_with fail
                go_roundw
                case rel =>
                  have hcut := H7.out.2.2.2.1
                  rw [if_neg (by omega)] at hcut
                  refine ⟨k + 1, _, _, _, rfl, by omega, ?_, ⟨hcut, fun ad had => by cases had; exact H7.out.2.2.2.2 ⟨b, off, none⟩ rfl, by rw [H7.out.2.2.1]; exact H7.out.1, H7.out.2.1, by have := H7.out.1.lt; exact this⟩⟩
                  rw [H3.out.1]; have : N - k = (N - (k + 1)) + 1 := by omega
                  rw [this, Nat.add_mul]; omega
                case measure => simp [sliceLen]; omega
              · obtain rfl : c3 = 64 := by omega
                obtain rfl : n3 = 64 := by omega
                go_wp2_with fail
                go_roundw
                case rel =>
                  have hcut := H7.out.2.2.2.1
                  rw [if_pos rfl] at hcut
                  refine ⟨k + 1, _, _, _, rfl, by omega, ?_, ⟨hcut, H7.out.2.2.2.2, by rw [H7.out.2.2.1]; exact H7.out.1, H7.out.2.1, by have := H7.out.1.lt; exact this⟩⟩
                  have := H3.out.1; have : N - k = (N - (k + 1)) + 1 := by omega
                  omega
                case measure => simp [sliceLen]
    · obtain rfl : k = N := by omega
      have hn0 : n3 = 0 := by rw [hn]; omega
      subst hn0
      have hwr := Blk.wrow hO.hblk
      have h8 : (rTo1 sha1H P k).length = 5 := rTo1_len sha1H P k rfl
      have H1 := Lib.hid hO
      have HW := Lib.hid (words_any w.heap.size 5 5 (rTo1 sha1H P k) wr hwr h8.symm (by omega))
      clear hn hO hwr h8 hge hk
      go_wp2_with (go_at_call 76; with_reducible refine HW.out.mono ?_; rintro e w5 ⟨v5, rfl, hO5, hb5⟩)
      go_ret
      refine ⟨_, rfl, ?_, H1.out.turn.trans (hb5.mono (Nat.le_of_lt H1.out.size))⟩
      first | rw [hP] | skip
      rw [H0.out.2.1]
      exact hO5.mono (Nat.le_of_lt H1.out.size)
end Go.Proofs.YtddemlajfbagdaaDoor
namespace Go.Proofs.YtddemlajfbagdaaDoor
open Go.RowKit

theorem u32up (a : UInt8) (n : Nat) (h : n ≤ 24) : (a.toUInt32 <<< UInt32.ofNat n).toUInt64 = a.toUInt64 <<< UInt64.ofNat n := by
  apply UInt64.toNat_inj.1
  have ha := a.toNat_lt
  rw [UInt32.toNat_toUInt64, UInt32.toNat_shiftLeft, UInt64.toNat_shiftLeft, UInt8.toNat_toUInt32, UInt8.toNat_toUInt64, UInt32.toNat_ofNat', UInt64.toNat_ofNat', Nat.shiftLeft_eq, Nat.shiftLeft_eq]
  rw [Nat.mod_eq_of_lt (a := n) (by omega), Nat.mod_eq_of_lt (a := n) (by omega), Nat.mod_eq_of_lt (a := n) (by omega), Nat.mod_eq_of_lt (a := n) (by omega)]
  have : 2 ^ n ≤ 2 ^ 24 := Nat.pow_le_pow_right (by omega) h
  have h2 : a.toNat * 2 ^ n ≤ 255 * 2 ^ 24 := Nat.mul_le_mul (by omega) this
  rw [Nat.mod_eq_of_lt (by omega), Nat.mod_eq_of_lt (by omega)]
theorem be64_two (a b c d e f g h : UInt8) : be64 a b c d e f g h = (be32 a b c d).toUInt64 <<< 32 ||| (be32 e f g h).toUInt64 := by
  unfold be64 be32
  have s24 := fun a => u32up a 24 (by decide)
  have s16 := fun a => u32up a 16 (by decide)
  have s8 := fun a => u32up a 8 (by decide)
  simp only [UInt32.toUInt64_or]
  rw [show (24 : UInt32) = UInt32.ofNat 24 from rfl, show (16 : UInt32) = UInt32.ofNat 16 from rfl, show (8 : UInt32) = UInt32.ofNat 8 from rfl]
  simp only [s24, s16, s8, UInt8.toUInt64_toUInt32, UInt64.or_assoc]
  simp only [UInt64.shiftLeft_or, UInt64.or_assoc]
  rw [show (56 : UInt64) = UInt64.ofNat 24 + 32 from rfl, show (48 : UInt64) = UInt64.ofNat 16 + 32 from rfl, show (40 : UInt64) = UInt64.ofNat 8 + 32 from rfl]
  rw [UInt64.shiftLeft_add (by decide) (by decide) (by decide), UInt64.shiftLeft_add (by decide) (by decide) (by decide), UInt64.shiftLeft_add (by decide) (by decide) (by decide)]
  rfl
theorem shr_two (x : UInt64) (n : Nat) (h : n < 32) : ((x >>> 32).toUInt32 >>> UInt32.ofNat n).toUInt8 = (x >>> UInt64.ofNat (n + 32)).toUInt8 := by
  apply UInt8.toNat_inj.1
  rw [UInt32.toNat_toUInt8, UInt64.toNat_toUInt8, UInt32.toNat_shiftRight, UInt64.toNat_shiftRight, UInt64.toNat_toUInt32, UInt64.toNat_shiftRight, UInt32.toNat_ofNat', UInt64.toNat_ofNat', Nat.shiftRight_eq_div_pow, Nat.shiftRight_eq_div_pow, Nat.shiftRight_eq_div_pow]
  rw [Nat.mod_eq_of_lt (a := n) (by omega), Nat.mod_eq_of_lt (a := n) (by omega), Nat.mod_eq_of_lt (a := n + 32) (by omega), Nat.mod_eq_of_lt (a := n + 32) (by omega)]
  have h1 : (32 : UInt64).toNat % 64 = 32 := rfl
  rw [h1]
  have h2 := x.toNat_lt
  rw [Nat.mod_eq_of_lt (a := x.toNat / 2 ^ 32) (by omega), Nat.div_div_eq_div_mul, ← Nat.pow_add, Nat.add_comm 32 n]
theorem low_two (x : UInt64) (n : Nat) (h : n ≤ 24) : (x.toUInt32 >>> UInt32.ofNat n).toUInt8 = (x >>> UInt64.ofNat n).toUInt8 := by
  apply UInt8.toNat_inj.1
  rw [UInt32.toNat_toUInt8, UInt64.toNat_toUInt8, UInt32.toNat_shiftRight, UInt64.toNat_shiftRight, UInt64.toNat_toUInt32, UInt32.toNat_ofNat', UInt64.toNat_ofNat', Nat.shiftRight_eq_div_pow, Nat.shiftRight_eq_div_pow]
  rw [Nat.mod_eq_of_lt (a := n) (by omega), Nat.mod_eq_of_lt (a := n) (by omega), Nat.mod_eq_of_lt (a := n) (by omega), Nat.mod_eq_of_lt (a := n) (by omega)]
  have e : 2 ^ 32 = 2 ^ n * (2 ^ (24 - n) * 2 ^ 8) := by rw [← Nat.pow_add, ← Nat.pow_add]; congr 1; omega
  rw [e, Nat.mod_mul_right_div_self, Nat.mod_mul_left_mod]
theorem bytes_two (x : UInt64) : bytes32 (x >>> 32).toUInt32 ++ bytes32 x.toUInt32 = bytes64 x := by
  have a1 := shr_two x 24 (by decide)
  have a2 := shr_two x 16 (by decide)
  have a3 := shr_two x 8 (by decide)
  have a4 : (x >>> 32).toUInt32.toUInt8 = (x >>> 32).toUInt8 := by simp
  have b1 := low_two x 24 (by decide)
  have b2 := low_two x 16 (by decide)
  have b3 := low_two x 8 (by decide)
  have b4 : x.toUInt32.toUInt8 = x.toUInt8 := by simp
  unfold bytes32 bytes64
  simp only [List.cons_append, List.nil_append]
  rw [show (24 : UInt32) = UInt32.ofNat 24 from rfl, show (16 : UInt32) = UInt32.ofNat 16 from rfl, show (8 : UInt32) = UInt32.ofNat 8 from rfl, a1, a2, a3, a4, b1, b2, b3, b4]
  rfl
theorem word64_two (l : List UInt8) (k : Nat) : word64 l k = (word32 l k).toUInt64 <<< 32 ||| (word32 l (k + 4)).toUInt64 := be64_two _ _ _ _ _ _ _ _
/-- word, wherever the heap is as it was. -/
theorem word_at (b off n c : Nat) (l : List UInt8) (w0 w : World) (h : At w0 b off l) (hw : w.heap = w0.heap) (hn : n = l.length) (h4 : 4 ≤ n) :
    Calls Tryd.prog 74 #[.slice (some ⟨b, off, none⟩) n c] w fun e w' => e = .returned (U32 (word32 l 0)) ∧ ∃ k, w' = w.drewN k :=
  word_any b off n c l w (h.keep (by rw [hw]; exact Nat.le_refl _) (by rw [hw])) hn h4
end Go.Proofs.YtddemlajfbagdaaDoor
