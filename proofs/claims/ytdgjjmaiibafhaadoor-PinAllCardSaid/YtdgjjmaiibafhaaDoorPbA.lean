/-
  Contract of hashes.PBKDF2.
  Contract of the reference's PBKDF2.
  PBKDF2 (program's and reference's) at what may not be: nothing; and both for every argument.
-/
import Derived.Test.YtdgjjmaiibafhaaDoorPbP
namespace Go.Proofs.YtdgjjmaiibafhaaDoor
set_option maxRecDepth 100000
open Go.RowKit

theorem pb_tests (R n SZ : Nat) (hS : 20 ≤ SZ ∧ SZ ≤ 64) (hR : 1 ≤ R ∧ R ≤ 65536) (hn : 1 ≤ n ∧ n ≤ 65536) (hq : R * ((n + SZ - 1) / SZ) ≤ 65536) : ∃ q : Nat, ((n : Int) + SZ - 1) / SZ = (q : Int) ∧ IntKind.i64.wrap ((R : Int) * q) = (R : Int) * q ∧ ¬ ((65536 : Int) < (R : Int) * q) := by
  obtain ⟨q, hqe⟩ : ∃ q, (n + SZ - 1) / SZ = q := ⟨_, rfl⟩
  rw [hqe] at hq
  have h : (R : Int) * (q : Int) ≤ 65536 := by
    have h1 := Int.ofNat_le.2 hq
    rw [Int.natCast_mul] at h1
    exact h1
  have h0 : (0 : Int) ≤ (R : Int) * (q : Int) := Int.mul_nonneg (by omega) (by omega)
  generalize hp : (R : Int) * (q : Int) = p at *
  refine ⟨q, ?_, ?_, ?_⟩
  · rw [← hqe, show ((n : Int) + SZ - 1) = ((n + SZ - 1 : Nat) : Int) by omega]; rfl
  · rw [hp]; exact IntWalk.i64_in _ (by omega)
  · rw [hp]; omega
set_option maxHeartbeats 4000000 in
theorem pb_in1 (kind : Int) (hk : 1 ≤ kind ∧ kind ≤ 5) (R n : Nat) (hR : 1 ≤ R ∧ R ≤ 65536) (hn : 1 ≤ n ∧ n ≤ 65536) (hq : R * ((n + (hsize kind).toNat - 1) / (hsize kind).toNat) ≤ 65536) (A : Option Addr) (m c : Nat) (pin : List UInt8) (A2 : Option Addr) (m2 c2 : Nat) (salt : List UInt8)
    (w : World) (hr : Rd w A m c pin) (hp : pin.length ≤ 1000) (hr2 : Rd w A2 m2 c2 salt) (hs : salt.length ≤ 1000) (hK : KAt w) :
    Calls Tryd.prog 38 #[.int .i64 kind, .slice A m c, .slice A2 m2 c2, .int .i64 R, .int .i64 n] w (RdRes w (pkey kind pin salt R n)) := by
  have hsz := hsize_pos kind hk
  have hsz2 := hsize_le kind hk
  have hpos : hsize kind = (((hsize kind).toNat : Nat) : Int) := by rw [Int.toNat_of_nonneg (by omega)]
  have HSz := Lib.hid (size_any kind)
  rw [hpos] at HSz
  have HLt := Lib.hid (fun b hb r => tS_len kind hk pin b hp hb r)
  have HLu := Lib.hid (fun b hb r => uS_len kind hk pin b hp hb r)
  have HLp := Lib.hid (fun k => pbk_len kind hk pin salt hp hs R k)
  generalize (hsize kind).toNat = SZ at *
  obtain ⟨q, hq1, hq2, hq3⟩ := pb_tests R n SZ ⟨hsz, hsz2⟩ hR hn hq
  have HH := Lib.hid (And.intro hk (And.intro hr (And.intro hp (And.intro hr2 (And.intro hs (And.intro hK hpos))))))
  have hz : (((SZ : Nat) : Int) == 0) = false := by rw [beq_eq_false_iff_ne]; omega
  have h1 : decide ((R : Int) < 1) = false := decide_eq_false (by omega)
  have h2 : decide ((65536 : Int) < R) = false := decide_eq_false (by omega)
  have h3 : decide ((n : Int) < 1) = false := decide_eq_false (by omega)
  have h4 : decide ((65536 : Int) < n) = false := decide_eq_false (by omega)
  have h5 : decide ((65536 : Int) < (R : Int) * q) = false := decide_eq_false hq3
  clear hq3
  have hni : (n : Int) ≤ 65536 := by omega
  have hn1 : (1 : Int) ≤ n := by omega
  have hRi : (R : Int) ≤ 65536 := by omega
  have hR1 : (1 : Int) ≤ R := by omega
  have hSi : (SZ : Int) ≤ 64 := by omega
  have hS2 : (20 : Int) ≤ SZ := by omega
  clear hk hr hp hr2 hs hK hpos hq hR hn
  go_enter Tryd.func38, Tryd.ntmps38
  go_wp2_with (first
    | (go_at_call 44; refine (HSz.out _).mono ?_; rintro e w' ⟨rfl, rfl⟩)
    | (go_at_call 45; refine (newKeyed_any kind HH.out.1 A m c pin w HH.out.2.1 (by have := HH.out.2.2.1; omega) HH.out.2.2.2.2.2.1).mono ?_; rintro e w1 ⟨d1, d2, wv1, wv2, rfl, hKA, hb1⟩; have HKA := Lib.hid (And.intro hKA hb1); clear hKA hb1))
  have hb0 : Blk (w1.alloc (.cells #[.pointer (some ⟨d1, 0, none⟩), .pointer (some ⟨d2, 0, none⟩)] 77)) w1.heap.size 77 #[.pointer (some ⟨d1, 0, none⟩), .pointer (some ⟨d2, 0, none⟩)] := Blk.new _ _ _
  have hal : Below w1.heap.size w1 (w1.alloc (.cells #[.pointer (some ⟨d1, 0, none⟩), .pointer (some ⟨d2, 0, none⟩)] 77)) := (Below.refl _ _).alloc (Nat.le_refl _) _
  have hbw := HKA.out.2.trans (hal.mono HKA.out.2.size)
  have H0 := Lib.hid (And.intro (HKA.out.1.below hal) (And.intro hbw (And.intro (HH.out.2.2.2.2.2.1.below hbw) (HH.out.2.2.2.1.below hbw))))
  generalize (w1.alloc (.cells #[.pointer (some ⟨d1, 0, none⟩), .pointer (some ⟨d2, 0, none⟩)] 77)) = w0 at *
  have hg0 := hb0.lt
  generalize w1.heap.size = g0 at *
  have Hb0 := Lib.hid hb0
  clear hal hbw hb0 HKA
  go_loopw [13, 14] (fun v i wr => ∃ (k : Nat) (A : Option Addr) (m c : Nat), k ≤ n ∧ i = .int .i64 ((k + 1 : Nat) : Int) ∧ v = .slice A m c ∧ Own wr w0.heap.size (.slice A m c) (pbk kind pin salt R k) ∧ Below w0.heap.size w0 wr) (fun _ i _ => (n + 1 - intOf i).toNat)
  case atStart => exact ⟨0, _, _, _, by omega, rfl, rfl, Own.nil _ _, Below.refl _ _⟩
  case round =>
    obtain ⟨k, A1, m1, c1, hk, rfl, rfl, hO, hB⟩ := hrel
    have hm1 := hO.len
    rw [HLp.out k] at hm1
    have hm20 : k * 20 ≤ m1 := by rw [hm1]; exact Nat.mul_le_mul_left k hsz
    have hki : (k : Int) ≤ 65536 := by omega
    have hk0 : (0 : Int) ≤ k := by omega
    rcases Nat.lt_or_ge m1 n with hlt | hge
    · have hli : (m1 : Int) < n := by omega
      have hkn : k < n := by omega
      have H1 := Lib.hid (And.intro hO (And.intro hB (And.intro hm1 hkn)))
      have bb := (Hb0.out.keep (hB.block g0 hg0)).two
      have Hbb := Lib.hid bb
      have hg0r : g0 < wr.heap.size := Nat.lt_of_lt_of_le hg0 hB.size
      clear hO hB hm1 hm20 hk hlt hkn bb
      generalize wr = wx at *
      go_wp2_with fail
      refine region_old (by kernel_rfl) (fun wd hHeld hSz2 => ?_)
      have HSz2 := Lib.hid hSz2
      clear hSz2
      refine takeL (i := 0) (v := ?_) rfl (by kernel_rfl) (by kernel_rfl) (by kernel_rfl) (fun _ _ _ h => h) (Or.inl ⟨by rfl, ?_⟩) hHeld ?_
      rotate_left
      focus (intro wq hSw; have b0 := (Below.cell hSw (p := ⟨g0, 0, none⟩) hg0r).trans Hbb.out.1; have b1 := (Below.cell hSw (p := ⟨g0, 1, none⟩) hg0r).trans Hbb.out.2; clear hSw; go_simp; try with_reducible rfl)
      try simp only [Act.put, List.setIfInBounds_toArray, List.set_cons_zero, List.set_cons_succ]
      refine takeL (i := 1) (v := ?_) rfl (by kernel_rfl) (by kernel_rfl) (by kernel_rfl) (fun _ _ _ h => h) (Or.inl ⟨by rfl, ?_⟩) hHeld ?_
      rotate_left
      focus (intro wq hSw; clear hSw; go_simp; try with_reducible rfl)
      try simp only [Act.put, List.setIfInBounds_toArray, List.set_cons_zero, List.set_cons_succ]
      refine takeL (i := 2) (v := ?_) rfl (by kernel_rfl) (by kernel_rfl) (by kernel_rfl) (fun _ _ _ h => h) (Or.inl ⟨by rfl, ?_⟩) hHeld ?_
      rotate_left
      focus (intro wq hSw; clear hSw; go_simp; try with_reducible rfl)
      try simp only [Act.put, List.setIfInBounds_toArray, List.set_cons_zero, List.set_cons_succ]
      refine wpAnyH_ready (rs := [3]) (by kernel_rfl) (by simp) ?_
      refine consL rfl (fun K hK => ?_) AllReadyH.nil
      go_simp
      refine (number_any ((k : Int) + 1) _).mono ?_
      rintro e w3 ⟨g3, c3, rfl, hO3, hb3⟩
      have h3 : Old wx w3 := hHeld.trans hb3
      clear hb3
      refine hK.out _ _ h3 (fun hHeld => ?_)
      clear hK K
      try simp only [Act.put, List.setIfInBounds_toArray, List.set_cons_zero, List.set_cons_succ]
      refine wpAnyH_old (w1 := w3) h3 (fun hHeld => ?_) (Old.refl _)
      refine wpAnyH_ready (rs := [4]) (by kernel_rfl) (by simp) ?_
      refine consL rfl (fun K hK => ?_) AllReadyH.nil
      go_simp
      refine hK.out _ _ (by repeat (first | exact hHeld | exact Old.refl _ | assumption | refine Old.drew ?_ | refine Old.drewN ?_ _ | refine Old.alloc ?_ _)) (fun hHeld => ?_)
      clear hK K
      try simp only [Act.put, List.setIfInBounds_toArray, List.set_cons_zero, List.set_cons_succ]
      refine wpAnyH_ready (rs := [5]) (by kernel_rfl) (by simp) ?_
      refine consL rfl (fun K hK => ?_) AllReadyH.nil
      go_simp
      have hbl := Blk.new w3 22 #[.slice A2 m2 c2, .slice (some ⟨g3, 0, none⟩) 4 c3]
      have hpp := rd_two hbl (((H0.out.2.2.2.below H1.out.2.1).below h3).below hHeld) (hO3.rd.below hHeld)
      refine (keyOf_res w.heap.size d1 d2 wv1 wv2 kind HH.out.1 pin _ 2 2 [salt, num4 ((k : Int) + 1)] _ (((H0.out.1.below H1.out.2.1).below h3).below hHeld) (by have := HH.out.2.2.1; omega) hpp (by have := HH.out.2.2.2.2.1; simp [num4_len]; omega) (((H0.out.2.2.1.below H1.out.2.1).below h3).below hHeld)).mono ?_
      rintro e w5 ⟨A5, n5, c5, rfl, hO5, hb5⟩
      rw [show ([salt, num4 ((k : Int) + 1)] : List (List UInt8)).flatten = salt ++ num4 ((k : Int) + 1) by simp] at hO5
      have h35 : Old w3 w5 := hHeld.trans hb5
      have h5 : Old wx w5 := h3.trans h35
      clear hbl hpp hb5
      refine hK.out _ _ h35 (fun hHeld => ?_)
      clear hK K
      try simp only [Act.put, List.setIfInBounds_toArray, List.set_cons_zero, List.set_cons_succ]
      refine takeL (i := 6) (v := ?_) rfl (by kernel_rfl) (by kernel_rfl) (by kernel_rfl) (fun _ _ _ h => h) (Or.inl ⟨by rfl, ?_⟩) hHeld ?_
      rotate_left
      focus (intro wq hSw; clear hSw; go_simp; try with_reducible rfl)
      try simp only [Act.put, List.setIfInBounds_toArray, List.set_cons_zero, List.set_cons_succ]
      refine wpAnyH_done (by kernel_rfl) ?_ _
      refine NoPanic.normal ?_
      simp only [Exit.then]
      obtain ⟨b, hb⟩ : ∃ b, salt ++ num4 ((k : Int) + 1) = b := ⟨_, rfl⟩
      have hbl : b.length ≤ 2000 := by rw [← hb, List.length_append, num4_len]; have := HH.out.2.2.2.2.1; omega
      rw [hb] at hO5
      have hlt0 := HLt.out b hbl
      have hlu0 := HLu.out b hbl
      obtain ⟨g5, c5', he5, hc5, _⟩ := hO5.form_n SZ (hlu0 0) (by omega)
      cases he5
      have H5 := Lib.hid (And.intro hO5 (And.intro h5 (And.intro hb hbl)))
      have HLt2 := Lib.hid hlt0
      have HLu2 := Lib.hid hlu0
      clear hO5 h5 hb hbl hlt0 hlu0 hHeld HSz2 hO3
      go_wp2_with fail
      refine (clone_own _ _ w5 _ H5.out.1 (by rw [show (rhmac kind pin b).length = SZ from HLu2.out 0]; omega)).mono ?_
      rintro e w6 ⟨v6, rfl, hO6, hb6⟩
      obtain ⟨g6, c6, rfl, hc6, _⟩ := hO6.form_n SZ (HLu2.out 0) (by omega)
      have hO6' : Own w6 w5.heap.size (.slice (some ⟨g6, 0, none⟩) SZ c6) (tS kind pin b 0) := hO6
      have H6 := Lib.hid (And.intro hO6' (And.intro (Old.trans H5.out.2.1 hb6) (H5.out.1.rd.below hb6)))
      have hg6 := (hO6.lt (g := g6) rfl)
      clear hO6 hb6 hO6'
      go_wp2_with fail
      have bb := (Hb0.out.keep (H1.out.2.1.block g0 hg0)).keep (H6.out.2.1.block g0 hg0r)
      have Hb6 := Lib.hid bb
      clear bb
      go_loopw [15, 68] (fun u i wy => ∃ (r : Nat) (A : Option Addr) (m c : Nat), r + 1 ≤ R ∧ i = .int .i64 r ∧ u = .slice A m c ∧ Rd wy A m c (uS kind pin b r) ∧ (∀ ad, A = some ad → ad.block ≠ g6) ∧ Own wy w5.heap.size (.slice (some ⟨g6, 0, none⟩) SZ c6) (tS kind pin b r) ∧ Turn [g6] w6 wy) (fun _ i _ => R - (intOf i).toNat)
      case atStart => exact ⟨0, _, _, _, by omega, rfl, rfl, H6.out.2.2, fun ad had => by cases had; have := (H5.out.1.lt (g := g5) rfl).2; have := hg6.1; simp only; omega, H6.out.1, Turn.refl _ _⟩
      case round =>
        obtain ⟨r, A7, m7, c7, hr7, rfl, rfl, hR7, hA7, hO7, hT7⟩ := hrel
        rcases Nat.lt_or_ge (r + 1) R with hlt | hge
        · have hri : (r : Int) < (R : Int) - 1 := by omega
          have hr0 : (0 : Int) ≤ r := by omega
          have hs5 := Below.size H5.out.2.1
          have hs6 := Below.size H6.out.2.1
          have h67 : g0 ∉ [g6] := by simp; omega
          have bb := (Hb6.out.keep (hT7.block g0 (by omega) h67))
          have b2 := bb.two
          have b20 := b2.1
          have b21 := b2.2
          have H7 := Lib.hid (And.intro hR7 (And.intro hA7 (And.intro hO7 (And.intro hT7 (And.intro bb hlt)))))
          clear hR7 hA7 hO7 hT7 bb b2 hlt hr7 h67 hs5 hs6
          go_wp2_with fail
          have hbl7 := Blk.new wr 22 #[.slice A7 m7 c7]
          have hal7 : Below wr.heap.size wr (wr.alloc (.cells #[.slice A7 m7 c7] 22)) := (Below.refl _ _).alloc (Nat.le_refl _) _
          have hT70 : Turn [g6] wx wr := (Turn.of_below [g6] H6.out.2.1).trans H7.out.2.2.2.1 (by simp)
          have hsz7 : wx.heap.size ≤ wr.heap.size := hT70.size
          have hbw7 : Below wx.heap.size wx wr := below_turn H6.out.2.1 H7.out.2.2.2.1 (by have := H5.out.2.1.size; simp; omega) (H6.out.2.1).size
          have hka := ((H0.out.1.below H1.out.2.1).below hbw7).below hal7
          have hkk := ((H0.out.2.2.1.below H1.out.2.1).below hbw7).below hal7
          have hpp := rd_one hbl7 (H7.out.1.below hal7)
          refine (keyOf_res w.heap.size d1 d2 wv1 wv2 kind HH.out.1 pin _ 1 1 [uS kind pin b r] _ hka (by have := HH.out.2.2.1; omega) hpp (by simp [HLu2.out r]; omega) hkk).mono ?_
          rintro e w8 ⟨A8, n8, c8, rfl, hO8, hb8⟩
          rw [show ([uS kind pin b r] : List (List UInt8)).flatten = uS kind pin b r by simp] at hO8
          have hO8' : Own w8 _ (.slice A8 n8 c8) (uS kind pin b (r + 1)) := hO8
          obtain ⟨g8, c8', he8, hc8, hg8⟩ := hO8'.form_n SZ (HLu2.out (r + 1)) (by omega)
          cases he8
          have hb78 : Below wr.heap.size wr w8 := hal7.trans (hb8.mono (by simp))
          have hne8 : g8 ≠ g6 := by have := (H7.out.2.2.1.lt (g := g6) rfl).2; simp at hg8; omega
          have H8 := Lib.hid (And.intro hO8' (And.intro hb78 (And.intro (H7.out.2.2.1.below hb78) hne8)))
          clear hbl7 hal7 hT70 hbw7 hka hkk hpp hO8 hO8' hb8 hb78 hg8 hne8 hc8
          go_wp2_with fail
          have hml : mixTo (tS kind pin b (r + 1)) (tS kind pin b r) 0 = tS kind pin b r := by simp [mixTo]
          go_loopw [76] (fun i wz => ∃ t : Nat, t ≤ SZ ∧ i = .int .i64 t ∧ Own wz w5.heap.size (.slice (some ⟨g6, 0, none⟩) SZ c6) (mixTo (tS kind pin b (r + 1)) (tS kind pin b r) t) ∧ Turn [g6] w8 wz) (fun i _ => SZ - (intOf i).toNat)
          case atStart => exact ⟨0, by omega, rfl, by rw [hml]; exact H8.out.2.2.1, Turn.refl _ _⟩
          case round =>
            obtain ⟨t, ht, rfl, hO9, hT9⟩ := hrel
            clear hml
            rcases Nat.lt_or_ge t SZ with htl | htl
            · have hlr := HLt2.out r
              have hlr1 := HLt2.out (r + 1)
              have hlu1 := HLu2.out (r + 1)
              obtain ⟨x, hx⟩ : ∃ x, (tS kind pin b r)[t]? = some x := ⟨_, List.getElem?_eq_getElem (by omega)⟩
              obtain ⟨y, hy⟩ : ∃ y, (uS kind pin b (r + 1))[t]? = some y := ⟨_, List.getElem?_eq_getElem (by omega)⟩
              have hxy : (tS kind pin b (r + 1))[t]? = some (x ^^^ y) := by
                show (xorL (tS kind pin b r) (uS kind pin b (r + 1)))[t]? = _
                unfold xorL; rw [List.getElem?_zipWith, hx, hy]
              have cx := hO9.cell t x (by rw [mixTo_get _ _ _ (by omega)]; exact hx)
              have fx := hO9.frozen t
              have cy := (H8.out.1.turn hT9 (fun q hq hm => by simp [Value.ownBlock] at hq hm; exact H8.out.2.2.2 (hq.trans hm))).cell t y hy
              have h1' := hO9.set_ t (x ^^^ y) htl
              rw [mixTo_set _ _ _ _ hxy (by omega)] at h1'
              have h2' := hT9.setCell (p := ⟨g6, t, none⟩) (.inl (by simp)) (B (x ^^^ y))
              have hti : (t : Int) < SZ := by omega
              have ht0 : (0 : Int) ≤ t := by omega
              have H9 := Lib.hid (And.intro h1' h2')
              clear hO9 hT9 hx hy hxy h1' h2' hlr hlr1 hlu1 htl ht
              go_wp2_with fail
              go_still_tail 10, (by kernel_rfl)
              go_wp2_with fail
              go_roundw
              case rel => exact ⟨t + 1, by omega, by go_num, H9.out.1.below (Below.refl _ _).drew, H9.out.2.drew⟩
              case measure => simp [intOf]; omega
            · obtain rfl : t = SZ := by omega
              have hq : ¬ ((t : Int) < t) := by omega
              have e1 : mixTo (tS kind pin b (r + 1)) (tS kind pin b r) t = tS kind pin b (r + 1) := by unfold mixTo; rw [List.take_of_length_le (by rw [HLt2.out]; omega), List.drop_eq_nil_of_le (by rw [HLt2.out]; omega), List.append_nil]
              rw [e1] at hO9
              have hu9 := (H8.out.1.turn hT9 (fun q hq hm => by simp [Value.ownBlock] at hq hm; exact H8.out.2.2.2 (hq.trans hm))).rd
              have H9 := Lib.hid (And.intro hO9 (And.intro hT9 hu9))
              clear hO9 hT9 hu9 e1 htl ht
              go_wp2_with fail
              go_roundw
              case rel => exact ⟨r + 1, _, _, _, by have := H7.out.2.2.2.2.2; omega, by go_num, rfl, H9.out.2.2, fun ad had => by cases had; exact H8.out.2.2.2, H9.out.1, (H7.out.2.2.2.1.trans (Turn.of_below [] H8.out.2.1) (by simp)).trans H9.out.2.1 (by simp)⟩
              case measure => have := H7.out.2.2.2.2.2; simp [intOf]; omega
        · have hrR : r = R - 1 := by omega
          have hri : ¬ ((r : Int) < (R : Int) - 1) := by omega
          have hbw7 : Below wx.heap.size wx wr := below_turn H6.out.2.1 hT7 (by have := H5.out.2.1.size; simp; omega) (H6.out.2.1).size
          have hOo := H1.out.1.below hbw7
          rw [hrR] at hO7
          have H7 := Lib.hid (And.intro hO7 (And.intro hbw7 hOo))
          clear hR7 hA7 hO7 hT7 hbw7 hOo hge hr7
          go_wp2_with (at_builtin; go_must (refine wp_app2 (.tmp 91) (.tmp 92) w0.heap.size _ (pbk kind pin salt R k) H7.out.2.2 (Nat.le_trans H1.out.2.1.size H7.out.2.1.size) _ _ _ _ H7.out.1.rd (by rw [← H7.out.2.2.len, HLt2.out]; omega) rfl rfl rfl rfl ?_; intro A10 n10 c10 w10 hn10 hG10))
          go_roundw
          case rel =>
            refine ⟨k + 1, _, _, _, H1.out.2.2.2, by go_num, rfl, ?_, (H1.out.2.1.trans (H7.out.2.1.mono H1.out.2.1.size)).trans hG10.below⟩
            have := hG10.own
            rw [← H5.out.2.2.1] at this
            exact this
          case measure => have := H1.out.2.2.2; simp [intOf]; omega
    · have hli : ¬ ((m1 : Int) < n) := by omega
      have hms := pkey_of kind pin salt R n k hk (by rw [HLp.out k, ← hm1]; exact hge)
      have hr1 := hO.rd
      have hsl := slice_three A1 m1 c1 n hr1.spot (Nat.le_trans hge hr1.2.1)
      have hfr : Rd wr A1 n n ((pbk kind pin salt R k).take n) := by
        obtain ⟨q1, q2, q3, q4⟩ := hr1.front (k := n) hge
        exact ⟨q1, Nat.le_refl _, by omega, q4.imp (fun h => ⟨h.1, by omega⟩) id⟩
      rw [← hms] at hfr
      have H1 := Lib.hid (And.intro hfr hB)
      clear hO hB hm1 hm20 hk hge hms hr1 hfr
      go_wp2_with fail
      go_ret
      exact ⟨_, _, _, rfl, H1.out.1, H0.out.2.1.trans (H1.out.2.mono H0.out.2.1.size)⟩
end Go.Proofs.YtdgjjmaiibafhaaDoor
namespace Go.Proofs.YtdgjjmaiibafhaaDoor
set_option maxRecDepth 100000
open Go.RowKit

theorem pb_tests2 (R n SZ : Nat) (hS : 20 ≤ SZ ∧ SZ ≤ 64) (hR : 1 ≤ R ∧ R ≤ 65536) (hn : 1 ≤ n ∧ n ≤ 65536) (hq : R * ((n + SZ - 1) / SZ) ≤ 65536) : ∃ q p : Nat, ((n : Int) + SZ - 1) / SZ = (q : Int) ∧ (65536 : Int) / (R : Int) = (p : Int) ∧ ¬ (p < q) := by
  obtain ⟨q, hqe⟩ : ∃ q, (n + SZ - 1) / SZ = q := ⟨_, rfl⟩
  rw [hqe] at hq
  refine ⟨q, 65536 / R, ?_, rfl, ?_⟩
  · rw [← hqe, show ((n : Int) + SZ - 1) = ((n + SZ - 1 : Nat) : Int) by omega]; rfl
  · rw [Nat.not_lt, Nat.le_div_iff_mul_le (by omega), Nat.mul_comm]; exact hq
set_option maxRecDepth 100000 in
set_option maxHeartbeats 4000000 in
theorem pb_in2 (kind : Int) (hk : 1 ≤ kind ∧ kind ≤ 5) (R n : Nat) (hR : 1 ≤ R ∧ R ≤ 65536) (hn : 1 ≤ n ∧ n ≤ 65536) (hq : R * ((n + (hsize kind).toNat - 1) / (hsize kind).toNat) ≤ 65536) (A : Option Addr) (m c : Nat) (pin : List UInt8) (A2 : Option Addr) (m2 c2 : Nat) (salt : List UInt8)
    (w : World) (hr : Rd w A m c pin) (hp : pin.length ≤ 1000) (hr2 : Rd w A2 m2 c2 salt) (hs : salt.length ≤ 1000) :
    Calls Tryd.prog 39 #[.int .i64 kind, .slice A m c, .slice A2 m2 c2, .int .i64 R, .int .i64 n] w (RdRes w (pkey kind pin salt R n)) := by
  have hsz := hsize_pos kind hk
  have hsz2 := hsize_le kind hk
  have hpos : hsize kind = (((hsize kind).toNat : Nat) : Int) := by rw [Int.toNat_of_nonneg (by omega)]
  have HSz := Lib.hid (rsize_any kind)
  rw [hpos] at HSz
  have HLt := Lib.hid (fun b hb r => tS_len kind hk pin b hp hb r)
  have HLu := Lib.hid (fun b hb r => uS_len kind hk pin b hp hb r)
  have HLp := Lib.hid (fun k => pbk_len kind hk pin salt hp hs R k)
  generalize (hsize kind).toNat = SZ at *
  obtain ⟨q, p, hq1, hq2, hq3⟩ := pb_tests2 R n SZ ⟨hsz, hsz2⟩ hR hn hq
  have HH := Lib.hid (And.intro hk (And.intro hr (And.intro hp (And.intro hr2 (And.intro hs hpos)))))
  have hz : (((SZ : Nat) : Int) == 0) = false := by rw [beq_eq_false_iff_ne]; omega
  have h1 : decide ((R : Int) < 1) = false := decide_eq_false (by omega)
  have h2 : decide ((65536 : Int) < R) = false := decide_eq_false (by omega)
  have h3 : decide ((n : Int) < 1) = false := decide_eq_false (by omega)
  have h4 : decide ((65536 : Int) < n) = false := decide_eq_false (by omega)
  have h5 : decide (p < q) = false := decide_eq_false hq3
  clear hq3
  have hni : (n : Int) ≤ 65536 := by omega
  have hn1 : (1 : Int) ≤ n := by omega
  have hRi : (R : Int) ≤ 65536 := by omega
  have hR1 : (1 : Int) ≤ R := by omega
  have hSi : (SZ : Int) ≤ 64 := by omega
  have hS2 : (20 : Int) ≤ SZ := by omega
  have hsum : IntKind.i64.wrap ((n : Int) + SZ) = (n : Int) + SZ := IntWalk.i64_in _ (by omega)
  have hsub : IntKind.i64.wrap ((n : Int) + SZ - 1) = (n : Int) + SZ - 1 := IntWalk.i64_in _ (by omega)
  clear hk hr hp hr2 hs hpos hq hR hn
  go_enter Tryd.func39, Tryd.ntmps39
  go_wp2_with (go_at_call 48; refine (HSz.out _).mono ?_; rintro e w' ⟨rfl, rfl⟩)
  go_quiet (fail)
  have ho0 : Old w (w.drewN nq) := (Old.refl w).drewN nq
  have H0 := Lib.hid (And.intro ho0 (And.intro (HH.out.2.1.below ho0) (HH.out.2.2.2.1.below ho0)))
  clear ho0 hsum hsub
  generalize w.drewN nq = w0 at *
  simp only [Exit.then]
  go_wp2_with fail
  go_loopw [12, 13] (fun v i wr => ∃ (k : Nat) (A : Option Addr) (m c : Nat), k ≤ n ∧ i = .int .i64 ((k + 1 : Nat) : Int) ∧ v = .slice A m c ∧ Own wr w0.heap.size (.slice A m c) (pbk kind pin salt R k) ∧ Below w0.heap.size w0 wr) (fun _ i _ => (n + 1 - intOf i).toNat)
  case atStart => exact ⟨0, _, _, _, by omega, rfl, rfl, Own.nil _ _, Below.refl _ _⟩
  case round =>
    obtain ⟨k, A1, m1, c1, hk, rfl, rfl, hO, hB⟩ := hrel
    have hm1 := hO.len
    rw [HLp.out k] at hm1
    have hm20 : k * 20 ≤ m1 := by rw [hm1]; exact Nat.mul_le_mul_left k hsz
    have hki : (k : Int) ≤ 65536 := by omega
    have hk0 : (0 : Int) ≤ k := by omega
    rcases Nat.lt_or_ge m1 n with hlt | hge
    · have hli : (m1 : Int) < n := by omega
      have hkn : k < n := by omega
      have hkn' : k ≤ 65535 := by omega
      have H1 := Lib.hid (And.intro hO (And.intro hB (And.intro hm1 hkn)))
      clear hO hB hm1 hm20 hk hlt hkn
      generalize wr = wx at *
      have HF := Lib.hid (four_any ((k : Int) + 1) wx (by omega) (by omega))
      go_wp2_with fail
      refine HF.out.mono ?_
      rintro e w3 ⟨rfl, hO3, hb3⟩
      have hrs := (H0.out.2.2.below H1.out.2.1).below hb3
      have hrp := (H0.out.2.1.below H1.out.2.1).below hb3
      have hbl := Blk.new w3 22 #[.slice A2 m2 c2, .slice (some ⟨wx.heap.size, 0, none⟩) 4 4]
      have hal : Below w3.heap.size w3 (w3.alloc (.cells #[.slice A2 m2 c2, .slice (some ⟨wx.heap.size, 0, none⟩) 4 4] 22)) := (Below.refl _ _).alloc (Nat.le_refl _) _
      have hpp := rd_two hbl (hrs.below hal) (hO3.rd.below hal)
      have hb4 : Below wx.heap.size wx (w3.alloc (.cells #[.slice A2 m2 c2, .slice (some ⟨wx.heap.size, 0, none⟩) 4 4] 22)) := hb3.trans (hal.mono hb3.size)
      have hfl : ([salt, num4 ((k : Int) + 1)] : List (List UInt8)).flatten = salt ++ num4 ((k : Int) + 1) := by simp
      obtain ⟨b, hb⟩ : ∃ b, salt ++ num4 ((k : Int) + 1) = b := ⟨_, rfl⟩
      have hbl2 : b.length ≤ 2000 := by rw [← hb, List.length_append, num4_len]; have := HH.out.2.2.2.2.1; omega
      go_wp2_with fail
      refine (join_any _ 2 2 [salt, num4 ((k : Int) + 1)] _ hpp (by rw [hfl, hb]; omega)).mono ?_
      rintro e w4 ⟨v4, rfl, hO4, hb4'⟩
      obtain ⟨A4, n4, c4, rfl, hr4⟩ : ∃ A n c, v4 = .slice A n c ∧ Rd w4 A n c b := by
        obtain ⟨A, c, he, hr, _⟩ := hO4.shape
        rw [hfl, hb] at he hr
        exact ⟨_, _, _, he, hr⟩
      have hbx4 := hb4.trans (hb4'.mono hb4.size)
      have H4 := Lib.hid (And.intro hr4 (And.intro hbx4 (And.intro (hrp.below (hal.trans (hb4'.mono hal.size))) (And.intro hb hbl2))))
      clear hrs hrp hbl hal hpp hb4 hfl hO4 hb4' hr4 hbx4 hO3 hb3 HF hb hbl2
      go_wp2_with fail
      refine (rhmac_any kind HH.out.1 A m c pin A4 n4 c4 b w4 H4.out.2.2.1 (by have := HH.out.2.2.1; omega) H4.out.1 (by have := H4.out.2.2.2.2; omega)).mono ?_
      rintro e w5 ⟨A5, n5, c5, rfl, hO5, hb5⟩
      have hlt0 := HLt.out b H4.out.2.2.2.2
      have hlu0 := HLu.out b H4.out.2.2.2.2
      have HLt2 := Lib.hid hlt0
      have HLu2 := Lib.hid hlu0
      obtain ⟨g5, c5', he5, hc5, _⟩ := hO5.form_n SZ (hlu0 0) (by omega)
      cases he5
      have H5 := Lib.hid (And.intro hO5 (H4.out.2.1.trans (hb5.mono H4.out.2.1.size)))
      have hg5 := (hO5.lt (g := g5) rfl)
      clear hO5 hb5 hlt0 hlu0 hc5
      go_wp2_with (at_builtin; go_must (refine wp_app2 _ (.tmp 65) w5.heap.size _ [] (Own.nil _ _) (Nat.le_refl _) _ _ _ _ H5.out.1.rd (by rw [show (rhmac kind pin b).length = SZ from HLu2.out 0]; simp; omega) rfl rfl rfl rfl ?_; intro A6 n6 c6 w6 hn6 hG6))
      have hO6 : Own w6 w5.heap.size (.slice A6 n6 c6) (tS kind pin b 0) := by have := hG6.own; rw [List.nil_append] at this; exact this
      obtain ⟨g6, c6', he6, hc6, _⟩ := hO6.form_n SZ (HLt2.out 0) (by omega)
      cases he6
      have H6 := Lib.hid (And.intro hO6 (And.intro (H5.out.2.trans (hG6.below.mono H5.out.2.size)) (H5.out.1.rd.below hG6.below)))
      have hg6 := (hO6.lt (g := g6) rfl)
      clear hO6 hG6 hc6 hn6
      go_wp2_with fail
      go_loopw [15, 17] (fun u i wy => ∃ (r : Nat) (A : Option Addr) (m c : Nat), r + 1 ≤ R ∧ i = .int .i64 ((r + 1 : Nat) : Int) ∧ u = .slice A m c ∧ Rd wy A m c (uS kind pin b r) ∧ (∀ ad, A = some ad → ad.block ≠ g6) ∧ Own wy w5.heap.size (.slice (some ⟨g6, 0, none⟩) SZ c6) (tS kind pin b r) ∧ Turn [g6] w6 wy) (fun _ i _ => (R + 1 - intOf i).toNat)
      case atStart => exact ⟨0, _, _, _, by omega, rfl, rfl, H6.out.2.2, fun ad had => by cases had; have := hg5.2; have := hg6.1; simp only; omega, H6.out.1, Turn.refl _ _⟩
      case round =>
        obtain ⟨r, A7, m7, c7, hr7, rfl, rfl, hR7, hA7, hO7, hT7⟩ := hrel
        rcases Nat.lt_or_ge (r + 1) R with hlt | hge
        · have hri : (r : Int) + 1 < (R : Int) := by omega
          have hr0 : (0 : Int) ≤ r := by omega
          have hbw7 : Below wx.heap.size wx wr := below_turn H6.out.2.1 hT7 (by have := H5.out.2.size; simp; omega) (H6.out.2.1).size
          have hrp := ((H0.out.2.1.below H1.out.2.1).below hbw7)
          have H7 := Lib.hid (And.intro hR7 (And.intro hA7 (And.intro hO7 (And.intro hT7 (And.intro hrp hlt)))))
          clear hR7 hA7 hO7 hT7 hrp hlt hr7 hbw7
          go_wp2_with fail
          refine (rhmac_any kind HH.out.1 A m c pin A7 m7 c7 (uS kind pin b r) wr H7.out.2.2.2.2.1 (by have := HH.out.2.2.1; omega) H7.out.1 (by rw [HLu2.out r]; omega)).mono ?_
          rintro e w8 ⟨A8, n8, c8, rfl, hO8, hb8⟩
          have hO8' : Own w8 _ (.slice A8 n8 c8) (uS kind pin b (r + 1)) := hO8
          obtain ⟨g8, c8', he8, hc8, hg8⟩ := hO8'.form_n SZ (HLu2.out (r + 1)) (by omega)
          cases he8
          have hne8 : g8 ≠ g6 := by have := (H7.out.2.2.1.lt (g := g6) rfl).2; omega
          have H8 := Lib.hid (And.intro hO8' (And.intro hb8 (And.intro (H7.out.2.2.1.below hb8) hne8)))
          clear hO8 hO8' hb8 hg8 hne8 hc8
          go_wp2_with fail
          have hml : mixTo (tS kind pin b (r + 1)) (tS kind pin b r) 0 = tS kind pin b r := by simp [mixTo]
          go_loopw [18] (fun i wz => ∃ t : Nat, t ≤ SZ ∧ i = .int .i64 t ∧ Own wz w5.heap.size (.slice (some ⟨g6, 0, none⟩) SZ c6) (mixTo (tS kind pin b (r + 1)) (tS kind pin b r) t) ∧ Turn [g6] w8 wz) (fun i _ => SZ - (intOf i).toNat)
          case atStart => exact ⟨0, by omega, rfl, by rw [hml]; exact H8.out.2.2.1, Turn.refl _ _⟩
          case round =>
            obtain ⟨t, ht, rfl, hO9, hT9⟩ := hrel
            clear hml
            rcases Nat.lt_or_ge t SZ with htl | htl
            · have hlr := HLt2.out r
              have hlr1 := HLt2.out (r + 1)
              have hlu1 := HLu2.out (r + 1)
              obtain ⟨x, hx⟩ : ∃ x, (tS kind pin b r)[t]? = some x := ⟨_, List.getElem?_eq_getElem (by omega)⟩
              obtain ⟨y, hy⟩ : ∃ y, (uS kind pin b (r + 1))[t]? = some y := ⟨_, List.getElem?_eq_getElem (by omega)⟩
              have hxy : (tS kind pin b (r + 1))[t]? = some (x ^^^ y) := by
                show (xorL (tS kind pin b r) (uS kind pin b (r + 1)))[t]? = _
                unfold xorL; rw [List.getElem?_zipWith, hx, hy]
              have cx := hO9.cell t x (by rw [mixTo_get _ _ _ (by omega)]; exact hx)
              have fx := hO9.frozen t
              have cy := (H8.out.1.turn hT9 (fun q hq hm => by simp [Value.ownBlock] at hq hm; exact H8.out.2.2.2 (hq.trans hm))).cell t y hy
              have h1' := hO9.set_ t (x ^^^ y) htl
              rw [mixTo_set _ _ _ _ hxy (by omega)] at h1'
              have h2' := hT9.setCell (p := ⟨g6, t, none⟩) (.inl (by simp)) (B (x ^^^ y))
              have hti : (t : Int) < SZ := by omega
              have ht0 : (0 : Int) ≤ t := by omega
              have H9 := Lib.hid (And.intro h1' h2')
              clear hO9 hT9 hx hy hxy h1' h2' hlr hlr1 hlu1 htl ht
              go_wp2_with fail
              go_still_tail 12, (by kernel_rfl)
              go_wp2_with fail
              go_roundw
              case rel => exact ⟨t + 1, by omega, by go_num, H9.out.1.below (Below.refl _ _).drew, H9.out.2.drew⟩
              case measure => simp [intOf]; omega
            · obtain rfl : t = SZ := by omega
              have hq : ¬ ((t : Int) < t) := by omega
              have e1 : mixTo (tS kind pin b (r + 1)) (tS kind pin b r) t = tS kind pin b (r + 1) := by unfold mixTo; rw [List.take_of_length_le (by rw [HLt2.out]; omega), List.drop_eq_nil_of_le (by rw [HLt2.out]; omega), List.append_nil]
              rw [e1] at hO9
              have hu9 := (H8.out.1.turn hT9 (fun q hq hm => by simp [Value.ownBlock] at hq hm; exact H8.out.2.2.2 (hq.trans hm))).rd
              have H9 := Lib.hid (And.intro hO9 (And.intro hT9 hu9))
              clear hO9 hT9 hu9 e1 htl ht
              go_wp2_with fail
              go_roundw
              case rel => exact ⟨r + 1, _, _, _, by have := H7.out.2.2.2.2.2; omega, by go_num, rfl, H9.out.2.2, fun ad had => by cases had; exact H8.out.2.2.2, H9.out.1, (H7.out.2.2.2.1.trans (Turn.of_below [] H8.out.2.1) (by simp)).trans H9.out.2.1 (by simp)⟩
              case measure => have := H7.out.2.2.2.2.2; simp [intOf]; omega
        · have hrR : r = R - 1 := by omega
          have hri : ¬ ((r : Int) + 1 < (R : Int)) := by omega
          have hbw7 : Below wx.heap.size wx wr := below_turn H6.out.2.1 hT7 (by have := H5.out.2.size; simp; omega) (H6.out.2.1).size
          have hOo := H1.out.1.below hbw7
          rw [hrR] at hO7
          have H7 := Lib.hid (And.intro hO7 (And.intro hbw7 hOo))
          clear hR7 hA7 hO7 hT7 hbw7 hOo hge hr7
          go_wp2_with (at_builtin; go_must (refine wp_app2 (.tmp 93) (.tmp 94) w0.heap.size _ (pbk kind pin salt R k) H7.out.2.2 (Nat.le_trans H1.out.2.1.size H7.out.2.1.size) _ _ _ _ H7.out.1.rd (by rw [← H7.out.2.2.len, HLt2.out]; omega) rfl rfl rfl rfl ?_; intro A10 n10 c10 w10 hn10 hG10))
          go_roundw
          case rel =>
            refine ⟨k + 1, H1.out.2.2.2, by go_num, _, _, _, ⟨rfl, rfl, rfl⟩, ?_, (H1.out.2.1.trans (H7.out.2.1.mono H1.out.2.1.size)).trans hG10.below⟩
            have := hG10.own
            rw [← H4.out.2.2.2.1] at this
            exact this
          case measure => have := H1.out.2.2.2; simp [intOf]; omega
    · have hli : ¬ ((m1 : Int) < n) := by omega
      have hms := pkey_of kind pin salt R n k hk (by rw [HLp.out k, ← hm1]; exact hge)
      have hr1 := hO.rd
      have hsl := slice_to A1 m1 c1 n hr1.spot (Nat.le_trans hge hr1.2.1)
      have hfr : Rd wr A1 n c1 ((pbk kind pin salt R k).take n) := hr1.front (k := n) hge
      rw [← hms] at hfr
      have H1 := Lib.hid (And.intro hfr hB)
      clear hO hB hm1 hm20 hk hge hms hr1 hfr
      go_wp2_with fail
      go_ret
      exact ⟨_, _, _, rfl, H1.out.1, Below.trans H0.out.1 (H1.out.2.mono (Below.size H0.out.1))⟩
end Go.Proofs.YtdgjjmaiibafhaaDoor
namespace Go.Proofs.YtdgjjmaiibafhaaDoor
set_option maxRecDepth 100000
open Go.RowKit

theorem pb_out_a (R n SZ : Nat) (hS : 20 ≤ SZ ∧ SZ ≤ 64) (hR : 1 ≤ R ∧ R ≤ 65536) (hn : 1 ≤ n ∧ n ≤ 65536) (hq : ¬ (R * ((n + SZ - 1) / SZ) ≤ 65536)) : ∃ q : Nat, ((n : Int) + SZ - 1) / SZ = (q : Int) ∧ IntKind.i64.wrap ((R : Int) * q) = (R : Int) * q ∧ (65536 : Int) < (R : Int) * q := by
  obtain ⟨q, hqe⟩ : ∃ q, (n + SZ - 1) / SZ = q := ⟨_, rfl⟩
  have hq2 : q ≤ 65536 := by
    rw [← hqe]
    refine Nat.le_trans (Nat.div_le_div_left (show 20 ≤ SZ by omega) (by omega)) ?_
    omega
  rw [hqe] at hq
  have h2 : R * q ≤ 65536 * 65536 := Nat.mul_le_mul hR.2 hq2
  have h : (65536 : Int) < (R : Int) * (q : Int) := by
    have h1 := Int.ofNat_lt.2 (Nat.lt_of_not_le hq)
    rw [Int.natCast_mul] at h1
    exact h1
  have h0 : (R : Int) * (q : Int) ≤ 4294967296 := by
    have h1 := Int.ofNat_le.2 h2
    rw [Int.natCast_mul] at h1
    exact h1
  generalize hp : (R : Int) * (q : Int) = p at *
  refine ⟨q, ?_, ?_, ?_⟩
  · rw [← hqe, show ((n : Int) + SZ - 1) = ((n + SZ - 1 : Nat) : Int) by omega]; rfl
  · rw [hp]; exact IntWalk.i64_in _ (by omega)
  · rw [hp]; exact h
theorem pb_out_b (R n SZ : Nat) (hS : 20 ≤ SZ ∧ SZ ≤ 64) (hR : 1 ≤ R ∧ R ≤ 65536) (hn : 1 ≤ n ∧ n ≤ 65536) (hq : ¬ (R * ((n + SZ - 1) / SZ) ≤ 65536)) : ∃ q p : Nat, ((n : Int) + SZ - 1) / SZ = (q : Int) ∧ (65536 : Int) / (R : Int) = (p : Int) ∧ p < q := by
  obtain ⟨q, hqe⟩ : ∃ q, (n + SZ - 1) / SZ = q := ⟨_, rfl⟩
  rw [hqe] at hq
  refine ⟨q, 65536 / R, ?_, rfl, ?_⟩
  · rw [← hqe, show ((n : Int) + SZ - 1) = ((n + SZ - 1 : Nat) : Int) by omega]; rfl
  · rw [← Nat.not_le, Nat.le_div_iff_mul_le (by omega), Nat.mul_comm]; exact hq
def PbIn (kind R n : Int) : Prop := (1 ≤ kind ∧ kind ≤ 5) ∧ (1 ≤ R ∧ R ≤ 65536) ∧ (1 ≤ n ∧ n ≤ 65536) ∧ R.toNat * ((n.toNat + (hsize kind).toNat - 1) / (hsize kind).toNat) ≤ 65536
instance (kind R n : Int) : Decidable (PbIn kind R n) := by unfold PbIn; infer_instance
set_option maxRecDepth 100000 in
set_option maxHeartbeats 4000000 in
theorem pb_out1 (kind R n : Int) (h : ¬ PbIn kind R n) (v1 v2 : Value) (w : World) :
    Calls Tryd.prog 38 #[.int .i64 kind, v1, v2, .int .i64 R, .int .i64 n] w fun e w' => e = .returned (.slice none 0 0) ∧ Old w w' := by
  have HSz := Lib.hid (size_any kind)
  by_cases hk : 1 ≤ kind ∧ kind ≤ 5
  · have hz : (hsize kind == 0) = false := hsize_ne kind hk
    have hsz := hsize_pos kind hk
    have hsz2 := hsize_le kind hk
    by_cases h1 : R < 1
    · have h1' : decide (R < 1) = true := decide_eq_true h1
      clear h hsz hsz2
      go_enter Tryd.func38, Tryd.ntmps38
      go_wp2_with (go_at_call 44; refine (HSz.out _).mono ?_; rintro e w' ⟨rfl, rfl⟩)
      go_ret
      exact ⟨rfl, Old.refl _⟩
    have h1' : decide (R < 1) = false := decide_eq_false h1
    by_cases h2 : 65536 < R
    · have h2' : decide (65536 < R) = true := decide_eq_true h2
      clear h hsz hsz2
      go_enter Tryd.func38, Tryd.ntmps38
      go_wp2_with (go_at_call 44; refine (HSz.out _).mono ?_; rintro e w' ⟨rfl, rfl⟩)
      go_ret
      exact ⟨rfl, Old.refl _⟩
    have h2' : decide (65536 < R) = false := decide_eq_false h2
    by_cases h3 : n < 1
    · have h3' : decide (n < 1) = true := decide_eq_true h3
      clear h hsz hsz2
      go_enter Tryd.func38, Tryd.ntmps38
      go_wp2_with (go_at_call 44; refine (HSz.out _).mono ?_; rintro e w' ⟨rfl, rfl⟩)
      go_ret
      exact ⟨rfl, Old.refl _⟩
    have h3' : decide (n < 1) = false := decide_eq_false h3
    by_cases h4 : 65536 < n
    · have h4' : decide (65536 < n) = true := decide_eq_true h4
      clear h hsz hsz2
      go_enter Tryd.func38, Tryd.ntmps38
      go_wp2_with (go_at_call 44; refine (HSz.out _).mono ?_; rintro e w' ⟨rfl, rfl⟩)
      go_ret
      exact ⟨rfl, Old.refl _⟩
    have h4' : decide (65536 < n) = false := decide_eq_false h4
    obtain ⟨R, rfl⟩ := Int.eq_ofNat_of_zero_le (show 0 ≤ R by omega)
    obtain ⟨n, rfl⟩ := Int.eq_ofNat_of_zero_le (show 0 ≤ n by omega)
    have hq : ¬ (R * ((n + (hsize kind).toNat - 1) / (hsize kind).toNat) ≤ 65536) := fun hq => h ⟨hk, by omega, by omega, by simpa using hq⟩
    have hpos : hsize kind = (((hsize kind).toNat : Nat) : Int) := by rw [Int.toNat_of_nonneg (by omega)]
    rw [hpos] at HSz hz
    clear h hpos
    generalize (hsize kind).toNat = SZ at *
    have hni : (n : Int) ≤ 65536 := by omega
    have hSi : (SZ : Int) ≤ 64 := by omega
    have hsum : IntKind.i64.wrap ((n : Int) + SZ) = (n : Int) + SZ := IntWalk.i64_in _ (by omega)
    have hsub : IntKind.i64.wrap ((n : Int) + SZ - 1) = (n : Int) + SZ - 1 := IntWalk.i64_in _ (by omega)
    obtain ⟨q, hq1, hq2, hq3⟩ := pb_out_a R n SZ ⟨hsz, hsz2⟩ (by omega) (by omega) hq
    have h5 : decide ((65536 : Int) < (R : Int) * q) = true := decide_eq_true hq3
    clear hq3 hq
    go_enter Tryd.func38, Tryd.ntmps38
    go_wp2_with (go_at_call 44; refine (HSz.out _).mono ?_; rintro e w' ⟨rfl, rfl⟩)
    go_ret
    exact ⟨rfl, Old.refl _⟩
  · have hz := hsize_none kind (by omega)
    rw [hz] at HSz
    clear h
    go_enter Tryd.func38, Tryd.ntmps38
    go_wp2_with (go_at_call 44; refine (HSz.out _).mono ?_; rintro e w' ⟨rfl, rfl⟩)
    go_ret
    exact ⟨rfl, Old.refl _⟩
set_option maxRecDepth 100000 in
set_option maxHeartbeats 4000000 in
theorem pb_out2 (kind R n : Int) (h : ¬ PbIn kind R n) (v1 v2 : Value) (w : World) :
    Calls Tryd.prog 39 #[.int .i64 kind, v1, v2, .int .i64 R, .int .i64 n] w fun e w' => e = .returned (.slice none 0 0) ∧ Old w w' := by
  have HSz := Lib.hid (rsize_any kind)
  by_cases hk : 1 ≤ kind ∧ kind ≤ 5
  · have hz : (hsize kind == 0) = false := hsize_ne kind hk
    have hsz := hsize_pos kind hk
    have hsz2 := hsize_le kind hk
    by_cases h1 : R < 1
    · have h1' : decide (R < 1) = true := decide_eq_true h1
      clear h hsz hsz2
      go_enter Tryd.func39, Tryd.ntmps39
      go_wp2_with (go_at_call 48; refine (HSz.out _).mono ?_; rintro e w' ⟨rfl, rfl⟩)
      go_quiet (fail)
      have ho0 : Old w (w.drewN nq) := (Old.refl w).drewN nq
      generalize w.drewN nq = w0 at *
      simp only [Exit.then]
      go_wp2_with fail
      go_ret
      exact ⟨rfl, ho0⟩
    have h1' : decide (R < 1) = false := decide_eq_false h1
    by_cases h2 : 65536 < R
    · have h2' : decide (65536 < R) = true := decide_eq_true h2
      clear h hsz hsz2
      go_enter Tryd.func39, Tryd.ntmps39
      go_wp2_with (go_at_call 48; refine (HSz.out _).mono ?_; rintro e w' ⟨rfl, rfl⟩)
      go_quiet (fail)
      have ho0 : Old w (w.drewN nq) := (Old.refl w).drewN nq
      generalize w.drewN nq = w0 at *
      simp only [Exit.then]
      go_wp2_with fail
      go_ret
      exact ⟨rfl, ho0⟩
    have h2' : decide (65536 < R) = false := decide_eq_false h2
    by_cases h3 : n < 1
    · have h3' : decide (n < 1) = true := decide_eq_true h3
      clear h hsz hsz2
      go_enter Tryd.func39, Tryd.ntmps39
      go_wp2_with (go_at_call 48; refine (HSz.out _).mono ?_; rintro e w' ⟨rfl, rfl⟩)
      go_quiet (fail)
      have ho0 : Old w (w.drewN nq) := (Old.refl w).drewN nq
      generalize w.drewN nq = w0 at *
      simp only [Exit.then]
      go_wp2_with fail
      go_ret
      exact ⟨rfl, ho0⟩
    have h3' : decide (n < 1) = false := decide_eq_false h3
    by_cases h4 : 65536 < n
    · have h4' : decide (65536 < n) = true := decide_eq_true h4
      clear h hsz hsz2
      go_enter Tryd.func39, Tryd.ntmps39
      go_wp2_with (go_at_call 48; refine (HSz.out _).mono ?_; rintro e w' ⟨rfl, rfl⟩)
      go_quiet (fail)
      have ho0 : Old w (w.drewN nq) := (Old.refl w).drewN nq
      generalize w.drewN nq = w0 at *
      simp only [Exit.then]
      go_wp2_with fail
      go_ret
      exact ⟨rfl, ho0⟩
    have h4' : decide (65536 < n) = false := decide_eq_false h4
    obtain ⟨R, rfl⟩ := Int.eq_ofNat_of_zero_le (show 0 ≤ R by omega)
    obtain ⟨n, rfl⟩ := Int.eq_ofNat_of_zero_le (show 0 ≤ n by omega)
    have hq : ¬ (R * ((n + (hsize kind).toNat - 1) / (hsize kind).toNat) ≤ 65536) := fun hq => h ⟨hk, by omega, by omega, by simpa using hq⟩
    have hpos : hsize kind = (((hsize kind).toNat : Nat) : Int) := by rw [Int.toNat_of_nonneg (by omega)]
    rw [hpos] at HSz hz
    clear h hpos
    generalize (hsize kind).toNat = SZ at *
    have hni : (n : Int) ≤ 65536 := by omega
    have hSi : (SZ : Int) ≤ 64 := by omega
    have hsum : IntKind.i64.wrap ((n : Int) + SZ) = (n : Int) + SZ := IntWalk.i64_in _ (by omega)
    have hsub : IntKind.i64.wrap ((n : Int) + SZ - 1) = (n : Int) + SZ - 1 := IntWalk.i64_in _ (by omega)
    obtain ⟨q, p, hq1, hq2, hq3⟩ := pb_out_b R n SZ ⟨hsz, hsz2⟩ (by omega) (by omega) hq
    have h5 : decide (p < q) = true := decide_eq_true hq3
    clear hq3 hq
    go_enter Tryd.func39, Tryd.ntmps39
    go_wp2_with (go_at_call 48; refine (HSz.out _).mono ?_; rintro e w' ⟨rfl, rfl⟩)
    go_quiet (fail)
    have ho0 : Old w (w.drewN nq) := (Old.refl w).drewN nq
    generalize w.drewN nq = w0 at *
    simp only [Exit.then]
    go_wp2_with fail
    go_ret
    exact ⟨rfl, ho0⟩
  · have hz := hsize_none kind (by omega)
    rw [hz] at HSz
    clear h
    go_enter Tryd.func39, Tryd.ntmps39
    go_wp2_with (go_at_call 48; refine (HSz.out _).mono ?_; rintro e w' ⟨rfl, rfl⟩)
    go_quiet (fail)
    have ho0 : Old w (w.drewN nq) := (Old.refl w).drewN nq
    generalize w.drewN nq = w0 at *
    simp only [Exit.then]
    go_wp2_with fail
    go_ret
    exact ⟨rfl, ho0⟩
def pkeyAll (kind : Int) (pin salt : List UInt8) (R n : Int) : List UInt8 := if PbIn kind R n then pkey kind pin salt R.toNat n.toNat else []
theorem pb_all1 (kind R n : Int) (A : Option Addr) (m c : Nat) (pin : List UInt8) (A2 : Option Addr) (m2 c2 : Nat) (salt : List UInt8) (w : World) (hr : Rd w A m c pin) (hp : pin.length ≤ 1000) (hr2 : Rd w A2 m2 c2 salt) (hs : salt.length ≤ 1000) (hK : KAt w) :
    Calls Tryd.prog 38 #[.int .i64 kind, .slice A m c, .slice A2 m2 c2, .int .i64 R, .int .i64 n] w (RdRes w (pkeyAll kind pin salt R n)) := by
  by_cases h : PbIn kind R n
  · unfold pkeyAll; rw [if_pos h]
    obtain ⟨hk, hR, hn, hq⟩ := h
    obtain ⟨R, rfl⟩ := Int.eq_ofNat_of_zero_le (show 0 ≤ R by omega)
    obtain ⟨n, rfl⟩ := Int.eq_ofNat_of_zero_le (show 0 ≤ n by omega)
    rw [Int.toNat_natCast, Int.toNat_natCast] at *
    exact pb_in1 kind hk R n (by omega) (by omega) hq A m c pin A2 m2 c2 salt w hr hp hr2 hs hK
  · unfold pkeyAll; rw [if_neg h]
    refine (pb_out1 kind R n h _ _ w).mono ?_
    rintro e w' ⟨rfl, hb⟩
    exact ⟨none, 0, 0, rfl, Rd.nil _, hb⟩
theorem pb_all2 (kind R n : Int) (A : Option Addr) (m c : Nat) (pin : List UInt8) (A2 : Option Addr) (m2 c2 : Nat) (salt : List UInt8) (w : World) (hr : Rd w A m c pin) (hp : pin.length ≤ 1000) (hr2 : Rd w A2 m2 c2 salt) (hs : salt.length ≤ 1000) :
    Calls Tryd.prog 39 #[.int .i64 kind, .slice A m c, .slice A2 m2 c2, .int .i64 R, .int .i64 n] w (RdRes w (pkeyAll kind pin salt R n)) := by
  by_cases h : PbIn kind R n
  · unfold pkeyAll; rw [if_pos h]
    obtain ⟨hk, hR, hn, hq⟩ := h
    obtain ⟨R, rfl⟩ := Int.eq_ofNat_of_zero_le (show 0 ≤ R by omega)
    obtain ⟨n, rfl⟩ := Int.eq_ofNat_of_zero_le (show 0 ≤ n by omega)
    rw [Int.toNat_natCast, Int.toNat_natCast] at *
    exact pb_in2 kind hk R n (by omega) (by omega) hq A m c pin A2 m2 c2 salt w hr hp hr2 hs
  · unfold pkeyAll; rw [if_neg h]
    refine (pb_out2 kind R n h _ _ w).mono ?_
    rintro e w' ⟨rfl, hb⟩
    exact ⟨none, 0, 0, rfl, Rd.nil _, hb⟩
end Go.Proofs.YtdgjjmaiibafhaaDoor
