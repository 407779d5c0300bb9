/-
  The reference's Encrypt.
  Modes, the document's answer: whole blocks (cbc).
-/
import Derived.Test.YtiocmebcbhbcmaaZzOwnR
import Derived.Deep.DeepCutAuto
import Derived.Deep.CutBlock
import Derived.Test.YtiocmebcbhbcmaaZzMr3
import Derived.Test.YtiocmebcbhbcmaaZzEqB
import Derived.Test.YtiocmebcbhbcmaaAesC4
namespace Go.Proofs.Ytiocmebcbhbcmaa
open Go.RowKit

set_option maxRecDepth 100000 in
set_option maxHeartbeats 4000000 in
theorem renc_any (c kb R cap g1 g2 : Nat) (ks : List UInt8) (A : Option Addr) (cb : Nat) (l : List UInt8) (w : World) (h : RCip w c kb R cap g1 g2 ks) (hr : Rd w A 16 cb l) :
    Calls Try.prog 33 #[.pointer (some ⟨c, 0, none⟩), .slice A 16 cb] w fun e w' => ∃ g : Nat, e = .returned (.slice (some ⟨g, 0, none⟩) 16 16) ∧ Own w' w.heap.size (.slice (some ⟨g, 0, none⟩) 16 16) (encL ks R l) ∧ Below w.heap.size w w' := by
  have hR1 : 11 ≤ R := h.2.2.2.1
  have hR2 : R ≤ 15 := h.2.2.2.2.1
  have hcap : R ≤ cap := h.2.2.2.2.2.1
  have hR2' : (R : Int) ≤ 15 := by omega
  have hR1' : (11 : Int) ≤ R := by omega
  obtain ⟨X, hX⟩ : ∃ X, w.heap.size = X := ⟨_, rfl⟩
  have hin : ∀ W, Below X w W → W.cell? ⟨c, 0, none⟩ = some (.slice (some ⟨kb, 0, none⟩) R cap) ∧ W.cell? ⟨c, 1, none⟩ = some (.slice (some ⟨g1, 0, none⟩) 256 256) := fun W hb => by
    have h1 := (h.below (by rw [hX]; exact hb)).1
    exact ⟨by rw [h1.cell 0]; rfl, by rw [h1.cell 1]; rfl⟩
  have hkey : ∀ W i, i < R → Below X w W → ∃ gk o, W.cell? ⟨kb, i, none⟩ = some (.slice (some ⟨gk, o, none⟩) 16 16) ∧ Rd W (some ⟨gk, o, none⟩) 16 16 (key ks i) := fun W i hi hb => (h.below (by rw [hX]; exact hb)).2.2.2.2.2.2.1 i hi
  have hbox : ∀ W, Below X w W → Rd W (some ⟨g1, 0, none⟩) 256 256 boxL := fun W hb => (h.below (by rw [hX]; exact hb)).2.2.2.2.2.2.2.1
  obtain ⟨z0, z1⟩ := hin w (Below.refl _ _)
  obtain ⟨gk, o, k0, k1⟩ := hkey w 0 (by omega) (Below.refl _ _)
  have HI := Lib.hid (And.intro hin (And.intro hkey hbox))
  have hx0 := rxor_any _ _ _ _ _ _ w hr k1
  have hlen : l.length = 16 := hr.1.symm
  have hcl : c < X := by rw [← hX]; exact h.1.lt
  have hkl : kb < X := by rw [← hX]; exact h.2.1
  have hksl := h.2.2.1
  have Hx0 := Lib.hid hx0
  have HL := Lib.hid (And.intro hlen hksl)
  have z5 : (0 : Int) ≤ R := by omega
  have q4 : IntKind.i64.wrap ((R : Int) - 1) = (R : Int) - 1 := IntWalk.i64_in _ (by omega)
  have q0 : (0 : Int) < R := by omega
  clear hin hkey hbox h hr k1 hx0 hlen hksl
  rw [hX]
  go_enter Try.func33, Try.ntmps33
  go_upto_region 2 with (go_at_call 52; go_must (refine Hx0.out.mono ?_); rintro e w1 ⟨rfl, ho1, hb1⟩; have H1 := Lib.hid (And.intro ho1 hb1); clear ho1 hb1)
  rw [hX] at H1
  obtain ⟨u0, u1⟩ := HI.out.1 w1 H1.out.2
  clear z0 z1 k0
  go_wp2_with fail
  --LOOP
  have henc1 : encF ks R l 1 = xorL l (key ks 0) := by
    show xorL (encM R 0 l) (key ks 0) = _
    unfold encM; rw [if_neg (by omega)]
  have HE1 := Lib.hid henc1
  clear henc1 u0 u1
  go_loopw [5, 7] (fun xv iv wr => ∃ (i g : Nat), 1 ≤ i ∧ i ≤ R ∧ xv = .slice (some ⟨g, 0, none⟩) 16 16 ∧ iv = .int .i64 (i : Int) ∧ Own wr X (.slice (some ⟨g, 0, none⟩) 16 16) (encF ks R l i) ∧ Below X w wr) (fun _ iv _ => 16 - (intOf iv).toNat)
  case atStart => exact ⟨1, X, by omega, by omega, rfl, rfl, by rw [HE1.out]; exact H1.out.1, H1.out.2⟩
  case round =>
    obtain ⟨i, g, hi1, hi2, rfl, rfl, hx, hB⟩ := hrel
    clear H1
    by_cases hlt : i < R
    · have hq : (i : Int) ≤ (R : Int) - 1 := by omega
      have hsl := encF_len ks R l HL.out.2 HL.out.1 i (by omega)
      have hnext : encF ks R l (i + 1) = xorL (encM R i (encF ks R l i)) (key ks i) := rfl
      generalize encF ks R l i = s at *
      have hmk := Try.prog_make 16 (by omega) wr
      rw [show ((16 : Nat) : Int) = 16 from rfl] at hmk
      obtain ⟨wc, hwc⟩ : ∃ wc, wr.alloc (.cells (madeCells #[.int .u8 0] 16) 5) = wc := ⟨_, rfl⟩
      have hOy := Own.made wr 16 (by unfold maxLen; omega)
      rw [hwc] at hmk hOy
      have hBc : Below X w wc := by rw [← hwc]; exact hB.alloc (by rw [← hX]; exact hB.size) _
      have hXc : X ≤ wr.heap.size := by rw [← hX]; exact hB.size
      have hgl := (hx.lt (g := g) rfl).2
      have hxc : Own wc X (.slice (some ⟨g, 0, none⟩) 16 16) s := by rw [← hwc]; exact hx.alloc_ _
      generalize wr.heap.size = Y at *
      have HR := Lib.hid (And.intro hBc (And.intro hxc (And.intro hOy (And.intro hsl hnext))))
      clear hx hB hBc hxc hOy hsl hnext hwc
      go_wp2_with fail
      clear hmk
      go_loopw [9] (fun kv wz => ∃ k : Nat, k ≤ 16 ∧ kv = .int .i64 (k : Int) ∧ Own wz Y (.slice (some ⟨Y, 0, none⟩) 16 16) (encN s k) ∧ Turn [Y] wc wz) (fun kv _ => 16 - (intOf kv).toNat)
      case atStart => exact ⟨0, by omega, rfl, HR.out.2.2.1, Turn.refl _ _⟩
      case round =>
        obtain ⟨k, hk, rfl, hA, hT⟩ := hrel
        have hBz := below_turn HR.out.1 hT (by simp; exact hXc) (by rw [← hX]; exact HR.out.1.size)
        have hxz := HR.out.2.1.turn hT (fun q hq hm => by cases hq; simp at hm; omega)
        by_cases hklt : k < 16
        · have hkq : (k : Int) < 16 := by omega
          obtain ⟨u0, u1⟩ := HI.out.1 wr hBz
          obtain ⟨m, hm⟩ : ∃ m, m = k % 4 := ⟨_, rfl⟩
          obtain ⟨p, hp⟩ : ∃ p, p = shp k := ⟨_, rfl⟩
          have hp' : p = (k + k % 4 * 4) % 16 := hp
          have hp16 : p < 16 := by omega
          obtain ⟨x, hxx⟩ := at16 s HR.out.2.2.2.1 p hp16
          have e3 : (x.toNat : Int) < 256 := by have := x.toNat_lt; omega
          have y1 := hxz.cell p x hxx
          have y2 : wr.cell? ⟨g1, x.toNat, none⟩ = some (B (sb x)) := by
            have hbx := HI.out.2.2 wr hBz
            obtain ⟨b, off, e, ha⟩ := hbx.addr (by omega)
            cases e
            have := ha.2 x.toNat _ (box_at x)
            rwa [Nat.zero_add] at this
          obtain ⟨z, hz⟩ := at16 (encN s k) hA.len.symm k hklt
          have y3 := hA.cell k z hz
          have y4 := hA.frozen k
          have g0 : (k : Int).tmod 4 = (m : Int) := by rw [Int.tmod_eq_emod_of_nonneg (by omega)]; omega
          have g0' : (k : Int) % 4 = (m : Int) := by omega
          have g3 : IntKind.i64.wrap (4 * (m : Int)) = 4 * (m : Int) := IntWalk.i64_in _ (by omega)
          have g2 : IntKind.i64.wrap ((k : Int) + 4 * (m : Int)) = (k : Int) + 4 * (m : Int) := IntWalk.i64_in _ (by omega)
          have g6 : ((k : Int) + 4 * (m : Int)).tmod 16 = (p : Int) := by rw [Int.tmod_eq_emod_of_nonneg (by omega)]; omega
          have g6' : ((k : Int) + 4 * (m : Int)) % 16 = (p : Int) := by omega
          have g4 : (p : Int) < 16 := by omega
          have hnew : encN s (k + 1) = (encN s k).set k (sb x) := by
            show (encN s k).set k (sb (s.getD (shp k) 0)) = _
            rw [← hp, List.getD_eq_getElem?_getD, hxx]; rfl
          have HB := Lib.hid (And.intro hA (And.intro hT hnew))
          clear hA hT hBz hxz hxx hz hp hp' hm hnew
          go_wp2_with fail
          go_still_tail 18, (by kernel_rfl)
          go_wp2_with fail
          have h1 := HB.out.1.set_ k (sb x) hklt
          go_roundw
          case rel => exact ⟨k + 1, by omega, by go_num, by rw [HB.out.2.2]; exact h1, (HB.out.2.1.setCell (p := ⟨Y, k, none⟩) (.inl (by simp)) _).drew⟩
          case measure => simp [intOf]; omega
        · obtain rfl : k = 16 := by omega
          have hkq : ¬ ((16 : Int) < 16) := by omega
          have hem : encM R i s = (if i < R - 1 then mixN (encN s 16) [2, 3, 1, 1] 4 else encN s 16) := by unfold encM; rw [if_pos (by omega)]
          have hyl := encN_len s 16
          have HY := Lib.hid (And.intro (hA.mono hXc) (And.intro hBz (And.intro hem hyl)))
          clear hA hT hBz hxz hem hyl hk hklt
          go_upto_if 54 with fail
          go_cut [8] from 24 to 66 (fun yv wx => ∃ gy, yv = .slice (some ⟨gy, 0, none⟩) 16 16 ∧ Own wx X (.slice (some ⟨gy, 0, none⟩) 16 16) (encM R i s) ∧ Below X w wx)
          case first =>
            by_cases hm : i < R - 1
            · have hm' : decide ((i : Int) < (R : Int) - 1) = true := decide_eq_true (by omega)
              have hm2 : (i : Int) < (R : Int) - 1 := by omega
              obtain ⟨wf, hwf⟩ : ∃ wf, wr.alloc (.cells #[.int .u8 2, .int .u8 3, .int .u8 1, .int .u8 1] 5) = wf := ⟨_, rfl⟩
              have hF : Rd wf (some ⟨wr.heap.size, 0, none⟩) 4 4 [2, 3, 1, 1] := by rw [← hwf]; exact rd_lit (l2 := [2, 3, 1, 1]) rfl rfl (by omega)
              have hyf : Rd wf (some ⟨Y, 0, none⟩) 16 16 (encN s 16) := by rw [← hwf]; exact (HY.out.1.alloc_ _).rd
              have hBf : Below X w wf := by rw [← hwf]; exact HY.out.2.1.alloc (by rw [← hX]; exact HY.out.2.1.size) _
              have hmx := rmix_any _ _ _ _ _ _ wf hyf hF
              rw [rmix_eq _ _ _ _ _ HY.out.2.2.2] at hmx
              have HM := Lib.hid (And.intro hmx hBf)
              have hdm : encM R i s = mixN (encN s 16) [2, 3, 1, 1] 4 := by rw [HY.out.2.2.1, if_pos hm]
              have HDM := Lib.hid hdm
              clear hmx hdm hF hyf hBf
              go_wp2_with (go_at_call 60; go_must (refine HM.out.1.mono ?_); rintro e w4 ⟨rfl, ho4, hb4⟩; have H4 := Lib.hid (And.intro ho4 hb4); clear ho4 hb4)
              go_meet
              case rel =>
                have hs : X ≤ wf.heap.size := by rw [← hX]; exact HM.out.2.size
                exact ⟨_, rfl, by rw [HDM.out]; exact H4.out.1.mono hs, HM.out.2.trans (H4.out.2.mono hs)⟩
            · have hm' : decide ((i : Int) < (R : Int) - 1) = false := decide_eq_false (by omega)
              have hm2 : ¬ ((i : Int) < (R : Int) - 1) := by omega
              have hdm : encM R i s = encN s 16 := by rw [HY.out.2.2.1, if_neg hm]
              have HDM := Lib.hid hdm
              clear hdm
              go_wp2_with fail
              go_meet
              case rel => exact ⟨Y, rfl, by rw [HDM.out]; exact HY.out.1, HY.out.2.1⟩
          case rest =>
            obtain ⟨gy, rfl, hy2, hB2⟩ := hcut
            obtain ⟨u0, u1⟩ := HI.out.1 wc hB2
            obtain ⟨gq, oq, k0, k1⟩ := HI.out.2.1 wc i hlt hB2
            have hxo := rxor_any _ _ _ _ _ _ wc hy2.rd k1
            have HXo := Lib.hid (And.intro hxo hB2)
            have hic : (i : Int) < R := by omega
            clear hy2 hB2 k1 hxo
            go_wp2_with (go_at_call 52; go_must (refine HXo.out.1.mono ?_); rintro e w5 ⟨rfl, ho5, hb5⟩; have H5 := Lib.hid (And.intro ho5 hb5); clear ho5 hb5)
            have hs : X ≤ wc.heap.size := by rw [← hX]; exact HXo.out.2.size
            go_roundw
            case rel => exact ⟨i + 1, _, by omega, by omega, rfl, by go_num, by rw [HR.out.2.2.2.2]; exact H5.out.1.mono hs, HXo.out.2.trans (H5.out.2.mono hs)⟩
            case measure => simp [intOf]; omega
    · obtain rfl : i = R := by omega
      have hq : ¬ ((i : Int) ≤ (i : Int) - 1) := by omega
      have HS := Lib.hid (And.intro hx hB)
      clear hx hB hi2 hlt
      go_wp2_with fail
      go_ret
      exact ⟨g, rfl, HS.out.1, HS.out.2⟩
end Go.Proofs.Ytiocmebcbhbcmaa
namespace Go.Proofs.Ytiocmebcbhbcmaa
set_option maxRecDepth 100000
open Go.RowKit

/-- The document's cipher in memory, told by what it does. -/
def REn (w0 : World) (c : Nat) (E D : List UInt8 → List UInt8) : Prop :=
  (∀ (W : World) (A : Option Addr) (ca : Nat) (l : List UInt8), Old w0 W → Rd W A 16 ca l → Calls Try.prog 33 #[.pointer (some ⟨c, 0, none⟩), .slice A 16 ca] W fun e w' => ∃ sb : Nat, e = .returned (.slice (some ⟨sb, 0, none⟩) 16 16) ∧ Rd w' (some ⟨sb, 0, none⟩) 16 16 (E l) ∧ Old W w' ∧ W.heap.size ≤ sb) ∧
  (∀ (W : World) (A : Option Addr) (ca : Nat) (l : List UInt8), Old w0 W → Rd W A 16 ca l → Calls Try.prog 32 #[.pointer (some ⟨c, 0, none⟩), .slice A 16 ca] W fun e w' => ∃ sb : Nat, e = .returned (.slice (some ⟨sb, 0, none⟩) 16 16) ∧ Rd w' (some ⟨sb, 0, none⟩) 16 16 (D l) ∧ Old W w' ∧ W.heap.size ≤ sb)
theorem REn.of {w : World} {c kb R cap g1 g2 : Nat} {ks : List UInt8} (h : RCip w c kb R cap g1 g2 ks) : REn w c (encL ks R) (decL ks R) := by
  refine ⟨fun W A ca l hO hr => ?_, fun W A ca l hO hr => ?_⟩
  · refine (renc_any c kb R cap g1 g2 ks A ca l W (h.below hO) hr).mono ?_
    rintro e w' ⟨g, rfl, ho, hb⟩
    exact ⟨g, rfl, ho.rd, hb, ho.addr_ge _ rfl⟩
  · refine (rdec_any c kb R cap g1 g2 ks A ca l W (h.below hO) hr).mono ?_
    rintro e w' ⟨g, rfl, ho, hb⟩
    exact ⟨g, rfl, ho.rd, hb, ho.addr_ge _ rfl⟩
theorem REn.below {w w' : World} {c : Nat} {E D : List UInt8 → List UInt8} (h : REn w c E D) (hb : Old w w') : REn w' c E D :=
  ⟨fun W A ca l hO hr => h.1 W A ca l (hb.trans hO) hr, fun W A ca l hO hr => h.2 W A ca l (hb.trans hO) hr⟩
/-- What stands between two rounds of cbc. -/
structure CB (w : World) (enc : Bool) (E D : List UInt8 → List UInt8) (N : Nat) (TG : List UInt8) (wr : World) (A1 : Option Addr) (c1 : Nat) (vl : List UInt8) (A2 : Option Addr) (n2 c2 : Nat) (bl : List UInt8) (A3 : Option Addr) (n3 c3 : Nat) (ol : List UInt8) : Prop where
  iv : Rd wr A1 16 c1 vl
  b : Rd wr A2 n2 c2 bl
  bo : ∀ ad, A2 = some ad → ad.block < w.heap.size
  out : Own wr w.heap.size (.slice A3 n3 c3) ol
  io : ∀ ad, A1 = some ad → (Value.slice A3 n3 c3).ownBlock ≠ some ad.block
  len : ol.length + n2 ≤ N
  old : Old w wr
  tot : ol ++ (blkN 2 enc E D (n2 / 16) vl bl).1 = TG
theorem CB.next {w wr w1 w2 : World} {enc : Bool} {E D : List UInt8 → List UInt8} {N : Nat} {TG : List UInt8} {A1 A2 A3 A4 A5 A6 : Option Addr} {c1 n2 c2 n3 c3 c4 n5 c5 n6 c6 : Nat} {iv b out iv' : List UInt8} (h : CB w enc E D N TG wr A1 c1 iv A2 n2 c2 b A3 n3 c3 out) (hn : 16 ≤ n2)
    (hO : Old wr w1) (hG : Grew w.heap.size w1 w2 (.slice A3 n3 c3) A5 n5 c5 (out ++ (blkF 2 enc E D iv (b.take 16)).1)) (h16 : (blkF 2 enc E D iv (b.take 16)).1.length = 16) (hiv : Rd w1 A4 16 c4 iv') (hiv' : iv' = (blkF 2 enc E D iv (b.take 16)).2) (hiv2 : ∀ ad, A4 = some ad → wr.heap.size ≤ ad.block ∨ ad.block < w.heap.size)
    (hb : Rd wr A6 n6 c6 (b.drop 16)) (hn6 : n6 = n2 - 16) (hb2 : ∀ ad, A6 = some ad → ∃ a0, A2 = some a0 ∧ ad.block = a0.block) : CB w enc E D N TG w2 A4 c4 iv' A6 n6 c6 (b.drop 16) A5 n5 c5 (out ++ (blkF 2 enc E D iv (b.take 16)).1) := by
  have hT : Turn (Value.slice A3 n3 c3).ownBlock.toList w1 w2 := Turn.of_grown hG.grown
  have hno : ∀ ad, A4 = some ad → (Value.slice A3 n3 c3).ownBlock ≠ some ad.block := fun ad e e2 => by
    have h1 := h.out.lt e2
    rcases hiv2 ad e with h2 | h2 <;> omega
  have hbo : ∀ ad, A6 = some ad → ad.block < w.heap.size := fun ad e => by
    obtain ⟨a0, e1, e2⟩ := hb2 ad e
    rw [e2]; exact h.bo a0 e1
  refine ⟨hiv.turn hT (fun ad e hm => hno ad e (by simpa using hm)), (hb.below hO).turn hT (fun ad e hm => ?_), hbo, hG.own, fun ad e e2 => ?_, ?_, (h.old.trans hO).trans_below hG.below, ?_⟩
  · have h1 := (h.out.lt (by simpa using hm)).1
    have := hbo ad e
    omega
  · rcases hG.at_ with h1 | h1
    · exact hno ad e (h1.symm.trans e2)
    · rw [e2] at h1
      injection h1 with h1
      have := hiv.lt ad e
      omega
  · have := h.len
    rw [List.length_append, h16]
    omega
  · rw [← h.tot, show n2 / 16 = n6 / 16 + 1 by omega, hiv']
    simp only [blkN, List.append_assoc]
set_option maxHeartbeats 2000000 in
theorem rcbc_any (c : Nat) (enc : Bool) (E D : List UInt8 → List UInt8) (A C : Option Addr) (ca n cb : Nat) (iv b : List UInt8) (w : World) (hE : REn w c E D) (hiv : Rd w A 16 ca iv) (hb : Rd w C n cb b) (hn : n ≤ 100000) :
    Calls Try.prog 34 #[.pointer (some ⟨c, 0, none⟩), .bool enc, .slice A 16 ca, .slice C n cb] w fun e w' => ∃ A' n' c', e = .returned (.slice A' n' c') ∧ Own w' w.heap.size (.slice A' n' c') (blkN 2 enc E D (n / 16) iv b).1 ∧ Old w w' := by
  obtain ⟨TG, hTG⟩ : ∃ T, (blkN 2 enc E D (n / 16) iv b).1 = T := ⟨_, rfl⟩
  rw [hTG]
  have hst : CB w enc E D n TG w A ca iv C n cb b none 0 0 [] := ⟨hiv, hb, fun ad e => hb.lt ad e, Own.nil _ _, fun ad _ => by simp [Value.ownBlock], by simp, Old.refl _, by rw [List.nil_append]; exact hTG⟩
  have HH := Lib.hid (And.intro hst hE)
  clear hst hE hTG hiv hb
  go_enter Try.func34, Try.ntmps34
  go_wp2_with fail
  go_loopw [2, 3, 9] (fun v1 v2 v3 wr => ∃ (A1 : Option Addr) (c1 : Nat) (iv : List UInt8) (A2 : Option Addr) (n2 c2 : Nat) (b : List UInt8) (A3 : Option Addr) (n3 c3 : Nat) (out : List UInt8), v1 = .slice A1 16 c1 ∧ v2 = .slice A2 n2 c2 ∧ v3 = .slice A3 n3 c3 ∧ CB w enc E D n TG wr A1 c1 iv A2 n2 c2 b A3 n3 c3 out) (fun _ v2 _ _ => sliceLen v2)
  case atStart => exact ⟨A, ca, iv, C, n, cb, b, none, 0, 0, [], rfl, rfl, rfl, HH.out.1⟩
  case round =>
    obtain ⟨A1, c1, iv1, A2, n2, c2, b2, A3, n3, c3, out, rfl, rfl, rfl, hI⟩ := hrel
    have hn2 : n2 ≤ 100000 := by have := hI.len; omega
    by_cases hlt : 16 ≤ n2
    · have hlti : (n2 : Int) ≥ 16 := by omega
      have hltd : decide ((n2 : Int) ≥ 16) = true := decide_eq_true hlti
      obtain ⟨A6, n6, c6, hn6, hS6, hR6, hB6⟩ := hI.b.cut_ex2 (k := 16) hlt
      have hsl := slice_to A2 n2 c2 16 hI.b.spot (by have := hI.b.2.1; omega)
      rw [show ((16 : Nat) : Int) = 16 from rfl] at hS6 hsl
      have hr16 := hI.b.front (k := 16) hlt
      have HI := Lib.hid (And.intro hI (And.intro hr16 (And.intro hR6 (And.intro hB6 (And.intro hn6 hlt)))))
      clear hI hr16 hR6 hB6 hn6 hlt
      cases enc with
      | true =>
        have hF : blkF 2 true E D iv1 (b2.take 16) = (E (xorL (b2.take 16) iv1), E (xorL (b2.take 16) iv1)) := by unfold blkF; rw [if_neg (by decide), if_pos rfl]
        have HF := Lib.hid hF
        clear hF
        go_wp2_with (first | (go_at_call 52; refine (rxorn_any A2 A1 16 c2 16 c1 _ iv1 wr HI.out.2.1 HI.out.1.iv (Nat.le_refl _) (by omega)).mono ?_; rintro e w5 ⟨rfl, hO5, hB5⟩; have H5 := Lib.hid (And.intro hO5.rd hB5); clear hO5 hB5) | (go_at_call 33; refine (HH.out.2.1 w5 _ _ _ (HI.out.1.old.trans H5.out.2) H5.out.1).mono ?_; rintro e w6 ⟨sb, rfl, hR, hB, hsb⟩; have H6 := Lib.hid (And.intro hR (And.intro (Old.trans H5.out.2 hB) (Nat.le_trans H5.out.2.size hsb))); clear hR hB hsb) | (at_builtin; refine wp_app2 (.tmp 23) (.tmp 24) w.heap.size (.slice A3 n3 c3) out (HI.out.1.out.below H6.out.2.1) (Nat.le_trans HI.out.1.old.size H6.out.2.1.size) (some ⟨sb, 0, none⟩) 16 16 _ H6.out.1 (by have := H6.out.1.1; have := HI.out.1.len; omega) rfl rfl rfl rfl ?_; intro A7 n7 c7 w7 hn7 hG; have H7 := Lib.hid hG; clear hG))
        have hnx := HI.out.1.next (A4 := some ⟨sb, 0, none⟩) (c4 := 16) (iv' := E (xorL (b2.take 16) iv1)) HI.out.2.2.2.2.2 H6.out.2.1 (by rw [HF.out]; exact H7.out) (by rw [HF.out]; exact H6.out.1.1.symm) H6.out.1 (by rw [HF.out]) (fun ad e => by cases e; exact .inl H6.out.2.2) HI.out.2.2.1 HI.out.2.2.2.2.1 HI.out.2.2.2.1
        rw [HF.out] at hnx
        have HN := Lib.hid hnx
        clear hnx
        go_roundw
        case rel => exact ⟨_, _, _, _, _, _, _, _, _, _, _, rfl, rfl, rfl, HN.out⟩
        case measure => have := HI.out.2.2.2.2.1; have := HI.out.2.2.2.2.2; simp [sliceLen]; omega
      | false =>
        have hF : blkF 2 false E D iv1 (b2.take 16) = (xorL (D (b2.take 16)) iv1, b2.take 16) := by unfold blkF; rw [if_neg (by decide), if_neg (by decide)]
        have HF := Lib.hid hF
        clear hF
        go_wp2_with (first | (go_at_call 52; refine (rxorn_any (some ⟨sb, 0, none⟩) A1 16 16 16 c1 _ iv1 w5 H5.out.1 (HI.out.1.iv.below H5.out.2) (Nat.le_refl _) (by omega)).mono ?_; rintro e w6 ⟨rfl, hO6, hB6⟩; have H6 := Lib.hid (And.intro hO6.rd (Old.trans H5.out.2 hB6)); clear hO6 hB6) | (go_at_call 32; refine (HH.out.2.2 wr _ _ _ HI.out.1.old HI.out.2.1).mono ?_; rintro e w5 ⟨sb, rfl, hR, hB, hsb⟩; have H5 := Lib.hid (And.intro hR hB); clear hR hB hsb) | (at_builtin; refine wp_app2 (.tmp 32) (.tmp 33) w.heap.size (.slice A3 n3 c3) out (HI.out.1.out.below H6.out.2) (Nat.le_trans HI.out.1.old.size H6.out.2.size) (some ⟨w5.heap.size, 0, none⟩) 16 16 _ H6.out.1 (by have := H6.out.1.1; have := HI.out.1.len; omega) rfl rfl rfl rfl ?_; intro A7 n7 c7 w7 hn7 hG; have H7 := Lib.hid hG; clear hG))
        have hnx := HI.out.1.next (A4 := A2) (c4 := c2) (iv' := b2.take 16) HI.out.2.2.2.2.2 H6.out.2 (by rw [HF.out]; exact H7.out) (by rw [HF.out]; exact H6.out.1.1.symm) (HI.out.2.1.below H6.out.2) (by rw [HF.out]) (fun ad e => .inr (HI.out.1.bo ad e)) HI.out.2.2.1 HI.out.2.2.2.2.1 HI.out.2.2.2.1
        rw [HF.out] at hnx
        have HN := Lib.hid hnx
        clear hnx
        go_roundw
        case rel => exact ⟨_, _, _, _, _, _, _, _, _, _, _, rfl, rfl, rfl, HN.out⟩
        case measure => have := HI.out.2.2.2.2.1; have := HI.out.2.2.2.2.2; simp [sliceLen]; omega
    · have hlti : ¬ (n2 : Int) ≥ 16 := by omega
      have hltd : decide ((n2 : Int) ≥ 16) = false := decide_eq_false hlti
      have ht := hI.tot
      rw [show n2 / 16 = 0 by omega] at ht
      simp only [blkN, List.append_nil] at ht
      have HI := Lib.hid (And.intro hI ht)
      clear hI ht hlt
      go_wp2_with fail
      go_ret
      exact ⟨A3, n3, c3, rfl, by rw [← HI.out.2]; exact HI.out.1.out, HI.out.1.old⟩
end Go.Proofs.Ytiocmebcbhbcmaa
