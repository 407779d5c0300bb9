/-
  aescore.Times and aescore.GHASH.
-/
import Derived.Test.YtgkkafkdgmdihaaAesH
namespace Go.Proofs.Ytgkkafkdgmdihaa
open Go.RowKit

def gmul (x y : List UInt8) : List UInt8 := wr16 (eF (rd16 x).1 (rd16 x).2 (rd16 y).1 (rd16 y).2 128).zh (eF (rd16 x).1 (rd16 x).2 (rd16 y).1 (rd16 y).2 128).zl
theorem gtimes_any (A C : Option Addr) (ca cc : Nat) (x y : List UInt8) (w : World) (hx : Rd w A 16 ca x) (hy : Rd w C 16 cc y) :
    Calls Try.prog 15 #[.slice A 16 ca, .slice C 16 cc] w fun e w' => ∃ g c, e = .returned (.slice (some ⟨g, 0, none⟩) 16 c) ∧ Own w' w.heap.size (.slice (some ⟨g, 0, none⟩) 16 c) (gmul x y) ∧ Below w.heap.size w w' := by
  have hxl := hx.1.symm
  have hyl := hy.1.symm
  have hca := hx.2.1
  have hcc := hy.2.1
  obtain ⟨bx, ox, rfl, hax⟩ := hx.addr (by omega)
  obtain ⟨by', oy, rfl, hay⟩ := hy.addr (by omega)
  have HX := Lib.hid (And.intro hax (And.intro hay (And.intro hxl hyl)))
  clear hx hy hax hay hxl hyl
  go_enter Try.func15, Try.ntmps15
  go_wp2_with fail
  refine (eread_any bx ox ca x _ HX.out.1 HX.out.2.2.1 hca).mono ?_
  rintro e w1 ⟨rfl, hb1⟩
  have HB1 := Lib.hid hb1
  have hay1 : At w1 by' oy y := HX.out.2.1.keep hb1.size (hb1.block by' HX.out.2.1.1)
  have HY := Lib.hid hay1
  clear hb1 hay1
  go_wp2_with fail
  refine (eread_any by' oy cc y _ HY.out HX.out.2.2.2 hcc).mono ?_
  rintro e w2 ⟨rfl, hb2⟩
  have HB2 := Lib.hid (HB1.out.trans (hb2.mono HB1.out.size))
  clear hb2
  go_wp2_with fail
  refine (etimes_any _ _ _ _ _).mono ?_
  rintro e w3 ⟨rfl, hb3⟩
  have HB3 := Lib.hid (HB2.out.trans (hb3.mono HB2.out.size))
  clear hb3
  go_wp2_with fail
  refine (ewrite_any _ _ _).mono ?_
  rintro e w4 ⟨g, c, rfl, ho, hb4⟩
  have HO := Lib.hid (And.intro ho hb4)
  clear ho hb4
  go_wp2_with fail
  go_ret
  exact ⟨g, c, rfl, HO.out.1.mono HB3.out.size, HB3.out.trans (HO.out.2.mono HB3.out.size)⟩
theorem gtimes_no (A C : Option Addr) (n m ca cc : Nat) (w : World) (h : n ≠ 16 ∨ m ≠ 16) :
    Calls Try.prog 15 #[.slice A n ca, .slice C m cc] w fun e w' => e = .returned (.slice none 0 0) ∧ w' = w := by
  by_cases hn : n = 16
  · have hm : m ≠ 16 := by rcases h with h | h; exact absurd hn h; exact h
    have h1 : (n : Int) = 16 := by omega
    have h2 : ((m : Int) != 16) = true := by simp; omega
    subst hn
    go_enter Try.func15, Try.ntmps15
    go_wp2
    go_ret
    exact ⟨rfl, rfl⟩
  · have h2 : ((n : Int) != 16) = true := by simp; omega
    go_enter Try.func15, Try.ntmps15
    go_wp2
    go_ret
    exact ⟨rfl, rfl⟩
def ghS (hh hl : UInt64) : Nat → List UInt8 → UInt64 × UInt64 → UInt64 × UInt64
  | 0, _, y => y
  | n + 1, r, y => if r = [] then y else
      ghS hh hl n (r.drop 16) ((eF (y.1 ^^^ (rd16 (splice (zs 16) 0 (r.take 16))).1) (y.2 ^^^ (rd16 (splice (zs 16) 0 (r.take 16))).2) hh hl 128).zh, (eF (y.1 ^^^ (rd16 (splice (zs 16) 0 (r.take 16))).1) (y.2 ^^^ (rd16 (splice (zs 16) 0 (r.take 16))).2) hh hl 128).zl)
def gh (h b : List UInt8) : List UInt8 := wr16 (ghS (rd16 h).1 (rd16 h).2 b.length b (0, 0)).1 (ghS (rd16 h).1 (rd16 h).2 b.length b (0, 0)).2
def sliceLen : Value → Nat
  | .slice _ n _ => n
  | _ => 0
theorem gh_no (A C : Option Addr) (n m ca cc : Nat) (w : World) (h : n ≠ 16) :
    Calls Try.prog 16 #[.slice A n ca, .slice C m cc] w fun e w' => e = .returned (.slice none 0 0) ∧ w' = w := by
  have h1 : ((n : Int) != 16) = true := by simp; omega
  have h2 : ¬ (n : Int) = 16 := by omega
  go_enter Try.func16, Try.ntmps16
  go_wp2
  go_ret
  exact ⟨rfl, rfl⟩
set_option maxHeartbeats 4000000 in
theorem gh_any (A C : Option Addr) (ca m cc : Nat) (h b : List UInt8) (w : World) (hx : Rd w A 16 ca h) (hy : Rd w C m cc b) :
    Calls Try.prog 16 #[.slice A 16 ca, .slice C m cc] w fun e w' => ∃ g c, e = .returned (.slice (some ⟨g, 0, none⟩) 16 c) ∧ Own w' w.heap.size (.slice (some ⟨g, 0, none⟩) 16 c) (gh h b) ∧ Below w.heap.size w w' := by
  have hxl := hx.1.symm
  have hca := hx.2.1
  have hml := hy.1
  have hmc := hy.2.2.1
  have hmm := hy.2.1
  unfold maxLen at hmc
  have hlt : ∀ ad, C = some ad → ad.block < w.heap.size := fun ad had => hy.lt ad had
  obtain ⟨bx, ox, rfl, hax⟩ := hx.addr (by omega)
  have hrd := eread_any bx ox ca h w hax hxl hca
  obtain ⟨hh, hhh⟩ : ∃ hh, hh = (rd16 h).1 := ⟨_, rfl⟩
  obtain ⟨hl, hhl⟩ : ∃ hl, hl = (rd16 h).2 := ⟨_, rfl⟩
  rw [← hhh, ← hhl] at hrd
  have hfin : gh h b = wr16 (ghS hh hl b.length b (0, 0)).1 (ghS hh hl b.length b (0, 0)).2 := by unfold gh; rw [hhh, hhl]
  rw [hfin]
  unfold El at hrd
  have HRd := Lib.hid hrd
  have HX := Lib.hid (And.intro hy (And.intro hlt hml))
  clear hx hax hxl hrd hhh hhl hfin hlt hy
  go_enter Try.func16, Try.ntmps16
  go_wp2_with fail
  refine HRd.out.mono ?_
  rintro e w1 ⟨rfl, hb1⟩
  have HB1 := Lib.hid hb1
  clear hb1 HRd
  go_wp2_with fail
  --LOOP
  obtain ⟨wA, hwA⟩ : ∃ wA, (w1.alloc (.cells #[U64 hh, U64 hl] 55)).alloc (.cells #[.int .u64 0, .int .u64 0] 55) = wA := ⟨_, rfl⟩
  have hhb : Blk wA w1.heap.size 55 #[U64 hh, U64 hl] := by rw [← hwA]; exact (Blk.new _ _ _).alloc _
  have hyb : Blk wA (w1.heap.size + 1) 55 #[U64 0, U64 0] := by
    have := Blk.new (w1.alloc (.cells #[U64 hh, U64 hl] 55)) 55 #[.int .u64 0, .int .u64 0]
    rw [show (w1.alloc (.cells #[U64 hh, U64 hl] 55)).heap.size = w1.heap.size + 1 by simp] at this
    rw [← hwA]; exact this
  have hbA : Below w.heap.size w wA := by rw [← hwA]; exact (HB1.out.alloc HB1.out.size _).alloc (by simp; have := HB1.out.size; omega) _
  rw [hwA]
  clear hwA
  have hX := HB1.out.size
  generalize w1.heap.size = X at *
  have hrA : Rd wA C b.length cc b := by have := HX.out.1.below hbA; rw [hml] at this; exact this
  have HA := Lib.hid (And.intro hhb (And.intro hyb (And.intro hbA hrA)))
  clear hhb hyb hbA hrA
  go_loopw [1] (fun bv wr => ∃ (A' : Option Addr) (n' c' : Nat) (r : List UInt8) (yh yl : UInt64) (fuel : Nat), bv = .slice A' n' c' ∧ n' ≤ 9223372036854775807 ∧ Rd wr A' n' c' r ∧ (∀ ad, A' = some ad → ad.block < w.heap.size) ∧ Blk wr X 55 #[U64 hh, U64 hl] ∧ Blk wr (X + 1) 55 #[U64 yh, U64 yl] ∧ Below w.heap.size w wr ∧ r.length ≤ fuel ∧ ghS hh hl fuel r (yh, yl) = ghS hh hl b.length b (0, 0)) (fun bv _ => sliceLen bv)
  case atStart => exact ⟨C, b.length, cc, b, 0, 0, b.length, rfl, by omega, HA.out.2.2.2, HX.out.2.1, HA.out.1, HA.out.2.1, HA.out.2.2.1, Nat.le_refl _, rfl⟩
  case round =>
    obtain ⟨A', n', c', r, yh, yl, fuel, rfl, hn63, hr, hal, hH, hY, hB, hf, hg⟩ := hrel
    have hrl := hr.1
    have hnc := hr.2.1
    have hcm := hr.2.2.1
    unfold maxLen at hcm
    by_cases hn : 0 < n'
    · have hn0 : (0 : Int) < n' := by omega
      have hn0' : decide ((0 : Int) < n') = true := decide_eq_true hn0
      obtain ⟨bb, off, rfl, ha⟩ := hr.addr hn
      obtain ⟨k, hk⟩ : ∃ k, min n' 16 = k := ⟨_, rfl⟩
      have hk1 : k ≤ n' := by omega
      have hk16 : k ≤ 16 := by omega
      have hk0 : 0 < k := by omega
      have hki : (k : Int) ≤ n' := by omega
      have hkc : (k : Int) ≤ c' := by omega
      have hnci : (n' : Int) ≤ c' := by omega
      have hd : r.drop k = r.drop 16 := by
        by_cases h16 : 16 ≤ n'
        · have : k = 16 := by omega
          rw [this]
        · rw [List.drop_eq_nil_of_le (by omega), List.drop_eq_nil_of_le (by omega)]
      have hrne : r ≠ [] := fun e => by rw [e] at hrl; simp at hrl; omega
      obtain ⟨f', rfl⟩ : ∃ f', fuel = f' + 1 := ⟨fuel - 1, by omega⟩
      have hstep : ghS hh hl (f' + 1) r (yh, yl) = ghS hh hl f' (r.drop 16) ((eF (yh ^^^ (rd16 (splice (zs 16) 0 (r.take 16))).1) (yl ^^^ (rd16 (splice (zs 16) 0 (r.take 16))).2) hh hl 128).zh, (eF (yh ^^^ (rd16 (splice (zs 16) 0 (r.take 16))).1) (yl ^^^ (rd16 (splice (zs 16) 0 (r.take 16))).2) hh hl 128).zl) := by
        show (if r = [] then _ else _) = _
        rw [if_neg hrne]
      obtain ⟨P, hP⟩ : ∃ P, P = splice (zs 16) 0 (r.take 16) := ⟨_, rfl⟩
      rw [← hP] at hstep
      have hbl : bb < w.heap.size := hal _ rfl
      have hXr : X + 1 < wr.heap.size := hY.lt
      have hcutk := hr.cut hk1
      rw [hd] at hcutk
      have hZ := st_new wr
      have hra := hr.below ((Below.refl wr.heap.size wr).alloc (Nat.le_refl _) (.cells Z16 45))
      have hHa := hH.alloc (.cells Z16 45)
      have hYa := hY.alloc (.cells Z16 45)
      have hBa := hB.alloc hB.size (.cells Z16 45)
      unfold Z16 at hZ hra hHa hYa hBa
      have HQ := Lib.hid (And.intro hZ (And.intro hra (And.intro hHa (And.intro hYa (And.intro hBa (And.intro hcutk (And.intro (hstep.symm.trans hg) (And.intro hP hk))))))))
      have hsz : (wr.alloc (.cells #[.int .u8 0, .int .u8 0, .int .u8 0, .int .u8 0, .int .u8 0, .int .u8 0, .int .u8 0, .int .u8 0, .int .u8 0, .int .u8 0, .int .u8 0, .int .u8 0, .int .u8 0, .int .u8 0, .int .u8 0, .int .u8 0] 45)).heap.size = wr.heap.size + 1 := by simp
      have HSz := Lib.hid hsz
      have HF := Lib.hid hf
      have HBr := Lib.hid hB
      have HRl := Lib.hid hrl
      have ht16 : (r.take 16) = r.take 16 := rfl
      clear hrl
      clear hZ hra hHa hYa hBa hcutk hstep hg hP hk hd hr hH hY hB ha hrne hsz hf
      have hwX : w.heap.size ≤ wr.heap.size := by omega
      by_cases hck : c' = k
      · have HC := HQ.out.2.2.2.2.2.1
        rw [if_pos hck] at HC
        have HC := Lib.hid HC
        go_wp2_with (refine wp_copySt rfl (.tmp 18) (.tmp 19) rfl wr.heap.size 0 16 16 (zs 16) HQ.out.1 rfl (by omega) (some ⟨bb, off, none⟩) n' c' r rfl HQ.out.2.1 hn (by omega) ?_; intro wv hv hTv; rw [HQ.out.2.2.2.2.2.2.2.2]; rw [← HQ.out.2.2.2.2.2.2.2.1] at hv; have HV := Lib.hid (And.intro hv hTv); clear hv hTv)
        have hrp := eread_any wr.heap.size 0 16 P wv ⟨HV.out.1.lt, fun k x hx => by rw [Nat.zero_add]; exact HV.out.1.cell k x hx⟩ HV.out.1.1 (Nat.le_refl _)
        obtain ⟨ph, hph⟩ : ∃ ph, ph = (rd16 P).1 := ⟨_, rfl⟩
        obtain ⟨pl, hpl⟩ : ∃ pl, pl = (rd16 P).2 := ⟨_, rfl⟩
        rw [← hph, ← hpl] at hrp
        unfold El at hrp
        have hgg := HQ.out.2.2.2.2.2.2.1
        rw [← hph, ← hpl] at hgg
        have HG := Lib.hid hgg
        have HRp := Lib.hid hrp
        clear hph hpl hgg hrp
        refine HRp.out.mono ?_
        rintro e w6 ⟨rfl, hb6⟩
        have hs6 : wr.heap.size ≤ w6.heap.size := by have a1 := HV.out.2.size; have a2 := hb6.size; have a3 := HSz.out; omega
        have hH6 := (HQ.out.2.2.1.turn HV.out.2 (by simp; omega)).below hb6
        have hY6 := (HQ.out.2.2.2.1.turn HV.out.2 (by simp; omega)).below hb6
        have hBv := below_turn HQ.out.2.2.2.2.1 HV.out.2 (by simp; omega) HQ.out.2.2.2.2.1.size
        have hB6 := hBv.trans (hb6.mono hBv.size)
        have y0 := hY6.cell 0
        have y1 := hY6.cell 1
        have h0 := hH6.cell 0
        have h1 := hH6.cell 1
        simp only [List.getElem?_toArray, List.getElem?_cons_zero, List.getElem?_cons_succ] at y0 y1 h0 h1
        have l1 := hY6.lt
        have l0 : X < w6.heap.size := by omega
        have H6 := Lib.hid (And.intro hH6 (And.intro hY6 hB6))
        clear hH6 hY6 hBv hB6 hb6 HRp
        have hTm := fun w => etimes_any (yh ^^^ ph) (yl ^^^ pl) hh hl w
        generalize eF (yh ^^^ ph) (yl ^^^ pl) hh hl 128 = s at *
        unfold El at hTm
        have HTm := Lib.hid hTm
        clear hTm
        go_wp2_with (go_at_call 29; refine (HTm.out _).mono ?_; rintro e w7 ⟨rfl, hb7⟩; have hal7 := (Below.refl w6.heap.size w6).alloc (Nat.le_refl _) (.cells #[U64 ph, U64 pl] 55); have hb67 := hal7.trans (hb7.mono hal7.size); have hY7 := H6.out.2.1.below hb67; have hH7 := H6.out.1.below hb67; have hB7 := H6.out.2.2.trans (hb67.mono H6.out.2.2.size); have v0 := hY7.cell 0; have v1 := hY7.cell 1; simp only [List.getElem?_toArray, List.getElem?_cons_zero, List.getElem?_cons_succ] at v0 v1; have f0 := hY7.frozen 0; have f1 := hY7.frozen 1; have hs7 := hb67.size; have H7 := Lib.hid (And.intro hH7 (And.intro hY7 hB7)); clear hal7 hb67 hY7 hH7 hB7 hb7 y0 y1 h0 h1)
        have hT9 : Turn [X + 1] w7 ((w7.setCell ⟨X + 1, 0, none⟩ (U64 s.zh)).setCell ⟨X + 1, 1, none⟩ (U64 s.zl)) := ((Turn.refl _ _).setCell (.inl (by simp)) _).setCell (.inl (by simp)) _
        have hB9 := below_turn H7.out.2.2 hT9 (by simp; omega) H7.out.2.2.size
        have hrB : ∀ {A2 : Option Addr} {n2 c2 : Nat} {l2 : List UInt8}, Rd wr A2 n2 c2 l2 → (∀ ad, A2 = some ad → ad.block < w.heap.size) → Rd ((w7.setCell ⟨X + 1, 0, none⟩ (U64 s.zh)).setCell ⟨X + 1, 1, none⟩ (U64 s.zl)) A2 n2 c2 l2 := fun hr2 hb2 => by
          refine hr2.keep ?_ (fun ad had => ?_)
          · have a1 := hT9.size
            omega
          · have b1 := hB9.block ad.block (hb2 ad had)
            have b2 := HBr.out.block ad.block (hb2 ad had)
            rw [b1, b2]
        have hfin : (r.drop 16).length ≤ f' := by have := HF.out; rw [List.length_drop]; have := HRl.out; omega
        go_roundw
        case rel => exact ⟨some ⟨bb, off, none⟩, n' - k, c' - k, r.drop 16, s.zh, s.zl, f', by first | rfl | simp [hck], by omega, hrB HC.out hal, hal, H7.out.1.far (by show X ≠ X + 1; omega) _ |>.far (by show X ≠ X + 1; omega) _, (H7.out.2.1.set_ 0 _).set_ 1 _, hB9, hfin, HG.out⟩
        case measure => simp [sliceLen]; omega
      · have HC := HQ.out.2.2.2.2.2.1
        rw [if_neg hck] at HC
        simp only [Option.map_some, Addr.add_mid] at HC
        have HC := Lib.hid HC
        go_wp2_with (refine wp_copySt rfl (.tmp 18) (.tmp 19) rfl wr.heap.size 0 16 16 (zs 16) HQ.out.1 rfl (by omega) (some ⟨bb, off, none⟩) n' c' r rfl HQ.out.2.1 hn (by omega) ?_; intro wv hv hTv; rw [HQ.out.2.2.2.2.2.2.2.2]; rw [← HQ.out.2.2.2.2.2.2.2.1] at hv; have HV := Lib.hid (And.intro hv hTv); clear hv hTv)
        have hrp := eread_any wr.heap.size 0 16 P wv ⟨HV.out.1.lt, fun k x hx => by rw [Nat.zero_add]; exact HV.out.1.cell k x hx⟩ HV.out.1.1 (Nat.le_refl _)
        obtain ⟨ph, hph⟩ : ∃ ph, ph = (rd16 P).1 := ⟨_, rfl⟩
        obtain ⟨pl, hpl⟩ : ∃ pl, pl = (rd16 P).2 := ⟨_, rfl⟩
        rw [← hph, ← hpl] at hrp
        unfold El at hrp
        have hgg := HQ.out.2.2.2.2.2.2.1
        rw [← hph, ← hpl] at hgg
        have HG := Lib.hid hgg
        have HRp := Lib.hid hrp
        clear hph hpl hgg hrp
        refine HRp.out.mono ?_
        rintro e w6 ⟨rfl, hb6⟩
        have hs6 : wr.heap.size ≤ w6.heap.size := by have a1 := HV.out.2.size; have a2 := hb6.size; have a3 := HSz.out; omega
        have hH6 := (HQ.out.2.2.1.turn HV.out.2 (by simp; omega)).below hb6
        have hY6 := (HQ.out.2.2.2.1.turn HV.out.2 (by simp; omega)).below hb6
        have hBv := below_turn HQ.out.2.2.2.2.1 HV.out.2 (by simp; omega) HQ.out.2.2.2.2.1.size
        have hB6 := hBv.trans (hb6.mono hBv.size)
        have y0 := hY6.cell 0
        have y1 := hY6.cell 1
        have h0 := hH6.cell 0
        have h1 := hH6.cell 1
        simp only [List.getElem?_toArray, List.getElem?_cons_zero, List.getElem?_cons_succ] at y0 y1 h0 h1
        have l1 := hY6.lt
        have l0 : X < w6.heap.size := by omega
        have H6 := Lib.hid (And.intro hH6 (And.intro hY6 hB6))
        clear hH6 hY6 hBv hB6 hb6 HRp
        have hTm := fun w => etimes_any (yh ^^^ ph) (yl ^^^ pl) hh hl w
        generalize eF (yh ^^^ ph) (yl ^^^ pl) hh hl 128 = s at *
        unfold El at hTm
        have HTm := Lib.hid hTm
        clear hTm
        go_wp2_with (go_at_call 29; refine (HTm.out _).mono ?_; rintro e w7 ⟨rfl, hb7⟩; have hal7 := (Below.refl w6.heap.size w6).alloc (Nat.le_refl _) (.cells #[U64 ph, U64 pl] 55); have hb67 := hal7.trans (hb7.mono hal7.size); have hY7 := H6.out.2.1.below hb67; have hH7 := H6.out.1.below hb67; have hB7 := H6.out.2.2.trans (hb67.mono H6.out.2.2.size); have v0 := hY7.cell 0; have v1 := hY7.cell 1; simp only [List.getElem?_toArray, List.getElem?_cons_zero, List.getElem?_cons_succ] at v0 v1; have f0 := hY7.frozen 0; have f1 := hY7.frozen 1; have hs7 := hb67.size; have H7 := Lib.hid (And.intro hH7 (And.intro hY7 hB7)); clear hal7 hb67 hY7 hH7 hB7 hb7 y0 y1 h0 h1)
        have hT9 : Turn [X + 1] w7 ((w7.setCell ⟨X + 1, 0, none⟩ (U64 s.zh)).setCell ⟨X + 1, 1, none⟩ (U64 s.zl)) := ((Turn.refl _ _).setCell (.inl (by simp)) _).setCell (.inl (by simp)) _
        have hB9 := below_turn H7.out.2.2 hT9 (by simp; omega) H7.out.2.2.size
        have hrB : ∀ {A2 : Option Addr} {n2 c2 : Nat} {l2 : List UInt8}, Rd wr A2 n2 c2 l2 → (∀ ad, A2 = some ad → ad.block < w.heap.size) → Rd ((w7.setCell ⟨X + 1, 0, none⟩ (U64 s.zh)).setCell ⟨X + 1, 1, none⟩ (U64 s.zl)) A2 n2 c2 l2 := fun hr2 hb2 => by
          refine hr2.keep ?_ (fun ad had => ?_)
          · have a1 := hT9.size
            omega
          · have b1 := hB9.block ad.block (hb2 ad had)
            have b2 := HBr.out.block ad.block (hb2 ad had)
            rw [b1, b2]
        have hfin : (r.drop 16).length ≤ f' := by have := HF.out; rw [List.length_drop]; have := HRl.out; omega
        go_roundw
        case rel => exact ⟨some ⟨bb, off + k, none⟩, n' - k, c' - k, r.drop 16, s.zh, s.zl, f', rfl, by omega, hrB HC.out (fun ad had => by cases had; exact hbl), (fun ad had => by cases had; exact hbl), H7.out.1.far (by show X ≠ X + 1; omega) _ |>.far (by show X ≠ X + 1; omega) _, (H7.out.2.1.set_ 0 _).set_ 1 _, hB9, hfin, HG.out⟩
        case measure => simp [sliceLen]; omega
    · obtain rfl : n' = 0 := by omega
      have hr0 : r = [] := List.length_eq_zero_iff.1 hrl.symm
      have hgz : (yh, yl) = ghS hh hl b.length b (0, 0) := by
        rw [← hg, hr0]
        cases fuel <;> rfl
      have y0 := hY.cell 0
      have y1 := hY.cell 1
      simp only [List.getElem?_toArray, List.getElem?_cons_zero, List.getElem?_cons_succ] at y0 y1
      have hw : ∀ w, Calls Try.prog 30 #[.agg #[U64 yh, U64 yl]] w _ := fun w => by have := ewrite_any yh yl w; unfold El at this; exact this
      have HW := Lib.hid hw
      have HB := Lib.hid (And.intro hB hgz)
      clear hr hH hY hB hg hf hr0 hgz hw hal hrl hnc hcm hn63
      go_wp2_with (go_at_call 30; refine (HW.out _).mono ?_; rintro e w8 ⟨g, c, rfl, ho, hb8⟩; have HO := Lib.hid (And.intro ho hb8); clear ho hb8)
      go_ret
      exact ⟨g, c, rfl, by rw [← HB.out.2]; exact HO.out.1.mono HB.out.1.size, HB.out.1.trans (HO.out.2.mono HB.out.1.size)⟩
end Go.Proofs.Ytgkkafkdgmdihaa
