/-
  aescore.Times and aescore.GHASH.
  The field of GHASH, plainly: the product is bilinear, and commutes.
  The reference's Xor, and bytes of the field's products.
-/
import Derived.Test.YtiocmebcbhbcmaaZzAesH
namespace Go.Proofs.Ytiocmebcbhbcmaa
set_option maxRecDepth 100000
open Go.RowKit

def gmul (x y : List UInt8) : List UInt8 := wr16 (eF (rd16 x).1 (rd16 x).2 (rd16 y).1 (rd16 y).2 128).zh (eF (rd16 x).1 (rd16 x).2 (rd16 y).1 (rd16 y).2 128).zl
def ghS (hh hl : UInt64) : Nat → List UInt8 → UInt64 × UInt64 → UInt64 × UInt64
  | 0, _, y => y
  | n + 1, r, y => if r = [] then y else
      ghS hh hl n (r.drop 16) ((eF (y.1 ^^^ (rd16 (splice (zs 16) 0 (r.take 16))).1) (y.2 ^^^ (rd16 (splice (zs 16) 0 (r.take 16))).2) hh hl 128).zh, (eF (y.1 ^^^ (rd16 (splice (zs 16) 0 (r.take 16))).1) (y.2 ^^^ (rd16 (splice (zs 16) 0 (r.take 16))).2) hh hl 128).zl)
def gh (h b : List UInt8) : List UInt8 := wr16 (ghS (rd16 h).1 (rd16 h).2 b.length b (0, 0)).1 (ghS (rd16 h).1 (rd16 h).2 b.length b (0, 0)).2
def sliceLen : Value → Nat
  | .slice _ n _ => n
  | _ => 0
theorem gh_no (A C : Option Addr) (n m ca cc : Nat) (w : World) (h : n ≠ 16) :
    Calls Try.prog 78 #[.slice A n ca, .slice C m cc] w fun e w' => e = .returned (.slice none 0 0) ∧ w' = w := by
  have h1 : ((n : Int) != 16) = true := by simp; omega
  have h2 : ¬ (n : Int) = 16 := by omega
  go_enter Try.func78, Try.ntmps78
  go_wp2
  go_ret
  exact ⟨rfl, rfl⟩
set_option maxHeartbeats 4000000 in
theorem gh_any (A C : Option Addr) (ca m cc : Nat) (h b : List UInt8) (w : World) (hx : Rd w A 16 ca h) (hy : Rd w C m cc b) :
    Calls Try.prog 78 #[.slice A 16 ca, .slice C m cc] w fun e w' => ∃ g c, e = .returned (.slice (some ⟨g, 0, none⟩) 16 c) ∧ Own w' w.heap.size (.slice (some ⟨g, 0, none⟩) 16 c) (gh h b) ∧ Below w.heap.size w w' := by
  have hxl := hx.1.symm
  have hca := hx.2.1
  have hml := hy.1
  have hmc := hy.2.2.1
  have hmm := hy.2.1
  unfold maxLen at hmc
  have hlt : ∀ ad, C = some ad → ad.block < w.heap.size := fun ad had => hy.lt ad had
  obtain ⟨bx, ox, rfl, hax⟩ := hx.addr (by omega)
  have hrd := eread_any bx ox ca h w hax hxl hca
  obtain ⟨hh, hhh⟩ : ∃ hh, hh = (rd16 h).1 := ⟨_, rfl⟩
  obtain ⟨hl, hhl⟩ : ∃ hl, hl = (rd16 h).2 := ⟨_, rfl⟩
  rw [← hhh, ← hhl] at hrd
  have hfin : gh h b = wr16 (ghS hh hl b.length b (0, 0)).1 (ghS hh hl b.length b (0, 0)).2 := by unfold gh; rw [hhh, hhl]
  rw [hfin]
  unfold El at hrd
  have HRd := Lib.hid hrd
  have HX := Lib.hid (And.intro hy (And.intro hlt hml))
  clear hx hax hxl hrd hhh hhl hfin hlt hy
  go_enter Try.func78, Try.ntmps78
  go_wp2_with fail
  refine HRd.out.mono ?_
  rintro e w1 ⟨rfl, hb1⟩
  have HB1 := Lib.hid hb1
  clear hb1 HRd
  go_wp2_with fail
  --LOOP
  obtain ⟨wA, hwA⟩ : ∃ wA, (w1.alloc (.cells #[U64 hh, U64 hl] 88)).alloc (.cells #[.int .u64 0, .int .u64 0] 88) = wA := ⟨_, rfl⟩
  have hhb : Blk wA w1.heap.size 88 #[U64 hh, U64 hl] := by rw [← hwA]; exact (Blk.new _ _ _).alloc _
  have hyb : Blk wA (w1.heap.size + 1) 88 #[U64 0, U64 0] := by
    have := Blk.new (w1.alloc (.cells #[U64 hh, U64 hl] 88)) 88 #[.int .u64 0, .int .u64 0]
    rw [show (w1.alloc (.cells #[U64 hh, U64 hl] 88)).heap.size = w1.heap.size + 1 by simp] at this
    rw [← hwA]; exact this
  have hbA : Below w.heap.size w wA := by rw [← hwA]; exact (HB1.out.alloc HB1.out.size _).alloc (by simp; have := HB1.out.size; omega) _
  rw [hwA]
  clear hwA
  have hX := HB1.out.size
  generalize w1.heap.size = X at *
  have hrA : Rd wA C b.length cc b := by have := HX.out.1.below hbA; rw [hml] at this; exact this
  have HA := Lib.hid (And.intro hhb (And.intro hyb (And.intro hbA hrA)))
  clear hhb hyb hbA hrA
  go_loopw [1] (fun bv wr => ∃ (A' : Option Addr) (n' c' : Nat) (r : List UInt8) (yh yl : UInt64) (fuel : Nat), bv = .slice A' n' c' ∧ n' ≤ 9223372036854775807 ∧ Rd wr A' n' c' r ∧ (∀ ad, A' = some ad → ad.block < w.heap.size) ∧ Blk wr X 88 #[U64 hh, U64 hl] ∧ Blk wr (X + 1) 88 #[U64 yh, U64 yl] ∧ Below w.heap.size w wr ∧ r.length ≤ fuel ∧ ghS hh hl fuel r (yh, yl) = ghS hh hl b.length b (0, 0)) (fun bv _ => sliceLen bv)
  case atStart => exact ⟨C, b.length, cc, b, 0, 0, b.length, rfl, by omega, HA.out.2.2.2, HX.out.2.1, HA.out.1, HA.out.2.1, HA.out.2.2.1, Nat.le_refl _, rfl⟩
  case round =>
    obtain ⟨A', n', c', r, yh, yl, fuel, rfl, hn63, hr, hal, hH, hY, hB, hf, hg⟩ := hrel
    have hrl := hr.1
    have hnc := hr.2.1
    have hcm := hr.2.2.1
    unfold maxLen at hcm
    by_cases hn : 0 < n'
    · have hn0 : (0 : Int) < n' := by omega
      have hn0' : decide ((0 : Int) < n') = true := decide_eq_true hn0
      obtain ⟨bb, off, rfl, ha⟩ := hr.addr hn
      obtain ⟨k, hk⟩ : ∃ k, min n' 16 = k := ⟨_, rfl⟩
      have hk1 : k ≤ n' := by omega
      have hk16 : k ≤ 16 := by omega
      have hk0 : 0 < k := by omega
      have hki : (k : Int) ≤ n' := by omega
      have hkc : (k : Int) ≤ c' := by omega
      have hnci : (n' : Int) ≤ c' := by omega
      have hd : r.drop k = r.drop 16 := by
        by_cases h16 : 16 ≤ n'
        · have : k = 16 := by omega
          rw [this]
        · rw [List.drop_eq_nil_of_le (by omega), List.drop_eq_nil_of_le (by omega)]
      have hrne : r ≠ [] := fun e => by rw [e] at hrl; simp at hrl; omega
      obtain ⟨f', rfl⟩ : ∃ f', fuel = f' + 1 := ⟨fuel - 1, by omega⟩
      have hstep : ghS hh hl (f' + 1) r (yh, yl) = ghS hh hl f' (r.drop 16) ((eF (yh ^^^ (rd16 (splice (zs 16) 0 (r.take 16))).1) (yl ^^^ (rd16 (splice (zs 16) 0 (r.take 16))).2) hh hl 128).zh, (eF (yh ^^^ (rd16 (splice (zs 16) 0 (r.take 16))).1) (yl ^^^ (rd16 (splice (zs 16) 0 (r.take 16))).2) hh hl 128).zl) := by
        show (if r = [] then _ else _) = _
        rw [if_neg hrne]
      obtain ⟨P, hP⟩ : ∃ P, P = splice (zs 16) 0 (r.take 16) := ⟨_, rfl⟩
      rw [← hP] at hstep
      have hbl : bb < w.heap.size := hal _ rfl
      have hXr : X + 1 < wr.heap.size := hY.lt
      have hcutk := hr.cut hk1
      rw [hd] at hcutk
      have hZ := st_new wr
      have hra := hr.below ((Below.refl wr.heap.size wr).alloc (Nat.le_refl _) (.cells Z16 74))
      have hHa := hH.alloc (.cells Z16 74)
      have hYa := hY.alloc (.cells Z16 74)
      have hBa := hB.alloc hB.size (.cells Z16 74)
      unfold Z16 at hZ hra hHa hYa hBa
      have HQ := Lib.hid (And.intro hZ (And.intro hra (And.intro hHa (And.intro hYa (And.intro hBa (And.intro hcutk (And.intro (hstep.symm.trans hg) (And.intro hP hk))))))))
      have hsz : (wr.alloc (.cells #[.int .u8 0, .int .u8 0, .int .u8 0, .int .u8 0, .int .u8 0, .int .u8 0, .int .u8 0, .int .u8 0, .int .u8 0, .int .u8 0, .int .u8 0, .int .u8 0, .int .u8 0, .int .u8 0, .int .u8 0, .int .u8 0] 74)).heap.size = wr.heap.size + 1 := by simp
      have HSz := Lib.hid hsz
      have HF := Lib.hid hf
      have HBr := Lib.hid hB
      have HRl := Lib.hid hrl
      have ht16 : (r.take 16) = r.take 16 := rfl
      clear hrl
      clear hZ hra hHa hYa hBa hcutk hstep hg hP hk hd hr hH hY hB ha hrne hsz hf
      have hwX : w.heap.size ≤ wr.heap.size := by omega
      by_cases hck : c' = k
      · have HC := HQ.out.2.2.2.2.2.1
        rw [if_pos hck] at HC
        have HC := Lib.hid HC
        go_wp2_with (refine wp_copySt rfl (.tmp 18) (.tmp 19) rfl wr.heap.size 0 16 16 (zs 16) HQ.out.1 rfl (by omega) (some ⟨bb, off, none⟩) n' c' r rfl HQ.out.2.1 hn (by omega) ?_; intro wv hv hTv; rw [HQ.out.2.2.2.2.2.2.2.2]; rw [← HQ.out.2.2.2.2.2.2.2.1] at hv; have HV := Lib.hid (And.intro hv hTv); clear hv hTv)
        have hrp := eread_any wr.heap.size 0 16 P wv ⟨HV.out.1.lt, fun k x hx => by rw [Nat.zero_add]; exact HV.out.1.cell k x hx⟩ HV.out.1.1 (Nat.le_refl _)
        obtain ⟨ph, hph⟩ : ∃ ph, ph = (rd16 P).1 := ⟨_, rfl⟩
        obtain ⟨pl, hpl⟩ : ∃ pl, pl = (rd16 P).2 := ⟨_, rfl⟩
        rw [← hph, ← hpl] at hrp
        unfold El at hrp
        have hgg := HQ.out.2.2.2.2.2.2.1
        rw [← hph, ← hpl] at hgg
        have HG := Lib.hid hgg
        have HRp := Lib.hid hrp
        clear hph hpl hgg hrp
        refine HRp.out.mono ?_
        rintro e w6 ⟨rfl, hb6⟩
        have hs6 : wr.heap.size ≤ w6.heap.size := by have a1 := HV.out.2.size; have a2 := hb6.size; have a3 := HSz.out; omega
        have hH6 := (HQ.out.2.2.1.turn HV.out.2 (by simp; omega)).below hb6
        have hY6 := (HQ.out.2.2.2.1.turn HV.out.2 (by simp; omega)).below hb6
        have hBv := below_turn HQ.out.2.2.2.2.1 HV.out.2 (by simp; omega) HQ.out.2.2.2.2.1.size
        have hB6 := hBv.trans (hb6.mono hBv.size)
        have y0 := hY6.cell 0
        have y1 := hY6.cell 1
        have h0 := hH6.cell 0
        have h1 := hH6.cell 1
        simp only [List.getElem?_toArray, List.getElem?_cons_zero, List.getElem?_cons_succ] at y0 y1 h0 h1
        have l1 := hY6.lt
        have l0 : X < w6.heap.size := by omega
        have H6 := Lib.hid (And.intro hH6 (And.intro hY6 hB6))
        clear hH6 hY6 hBv hB6 hb6 HRp
        have hTm := fun w => etimes_any (yh ^^^ ph) (yl ^^^ pl) hh hl w
        generalize eF (yh ^^^ ph) (yl ^^^ pl) hh hl 128 = s at *
        unfold El at hTm
        have HTm := Lib.hid hTm
        clear hTm
        go_wp2_with (go_at_call 88; refine (HTm.out _).mono ?_; rintro e w7 ⟨rfl, hb7⟩; have hal7 := (Below.refl w6.heap.size w6).alloc (Nat.le_refl _) (.cells #[U64 ph, U64 pl] 88); have hb67 := hal7.trans (hb7.mono hal7.size); have hY7 := H6.out.2.1.below hb67; have hH7 := H6.out.1.below hb67; have hB7 := H6.out.2.2.trans (hb67.mono H6.out.2.2.size); have v0 := hY7.cell 0; have v1 := hY7.cell 1; simp only [List.getElem?_toArray, List.getElem?_cons_zero, List.getElem?_cons_succ] at v0 v1; have f0 := hY7.frozen 0; have f1 := hY7.frozen 1; have hs7 := hb67.size; have H7 := Lib.hid (And.intro hH7 (And.intro hY7 hB7)); clear hal7 hb67 hY7 hH7 hB7 hb7 y0 y1 h0 h1)
        have hT9 : Turn [X + 1] w7 ((w7.setCell ⟨X + 1, 0, none⟩ (U64 s.zh)).setCell ⟨X + 1, 1, none⟩ (U64 s.zl)) := ((Turn.refl _ _).setCell (.inl (by simp)) _).setCell (.inl (by simp)) _
        have hB9 := below_turn H7.out.2.2 hT9 (by simp; omega) H7.out.2.2.size
        have hrB : ∀ {A2 : Option Addr} {n2 c2 : Nat} {l2 : List UInt8}, Rd wr A2 n2 c2 l2 → (∀ ad, A2 = some ad → ad.block < w.heap.size) → Rd ((w7.setCell ⟨X + 1, 0, none⟩ (U64 s.zh)).setCell ⟨X + 1, 1, none⟩ (U64 s.zl)) A2 n2 c2 l2 := fun hr2 hb2 => by
          refine hr2.keep ?_ (fun ad had => ?_)
          · have a1 := hT9.size
            omega
          · have b1 := hB9.block ad.block (hb2 ad had)
            have b2 := HBr.out.block ad.block (hb2 ad had)
            rw [b1, b2]
        have hfin : (r.drop 16).length ≤ f' := by have := HF.out; rw [List.length_drop]; have := HRl.out; omega
        go_roundw
        case rel => exact ⟨some ⟨bb, off, none⟩, n' - k, c' - k, r.drop 16, s.zh, s.zl, f', by first | rfl | simp [hck], by omega, hrB HC.out hal, hal, H7.out.1.far (by show X ≠ X + 1; omega) _ |>.far (by show X ≠ X + 1; omega) _, (H7.out.2.1.set_ 0 _).set_ 1 _, hB9, hfin, HG.out⟩
        case measure => simp [sliceLen]; omega
      · have HC := HQ.out.2.2.2.2.2.1
        rw [if_neg hck] at HC
        simp only [Option.map_some, Addr.add_mid] at HC
        have HC := Lib.hid HC
        go_wp2_with (refine wp_copySt rfl (.tmp 18) (.tmp 19) rfl wr.heap.size 0 16 16 (zs 16) HQ.out.1 rfl (by omega) (some ⟨bb, off, none⟩) n' c' r rfl HQ.out.2.1 hn (by omega) ?_; intro wv hv hTv; rw [HQ.out.2.2.2.2.2.2.2.2]; rw [← HQ.out.2.2.2.2.2.2.2.1] at hv; have HV := Lib.hid (And.intro hv hTv); clear hv hTv)
        have hrp := eread_any wr.heap.size 0 16 P wv ⟨HV.out.1.lt, fun k x hx => by rw [Nat.zero_add]; exact HV.out.1.cell k x hx⟩ HV.out.1.1 (Nat.le_refl _)
        obtain ⟨ph, hph⟩ : ∃ ph, ph = (rd16 P).1 := ⟨_, rfl⟩
        obtain ⟨pl, hpl⟩ : ∃ pl, pl = (rd16 P).2 := ⟨_, rfl⟩
        rw [← hph, ← hpl] at hrp
        unfold El at hrp
        have hgg := HQ.out.2.2.2.2.2.2.1
        rw [← hph, ← hpl] at hgg
        have HG := Lib.hid hgg
        have HRp := Lib.hid hrp
        clear hph hpl hgg hrp
        refine HRp.out.mono ?_
        rintro e w6 ⟨rfl, hb6⟩
        have hs6 : wr.heap.size ≤ w6.heap.size := by have a1 := HV.out.2.size; have a2 := hb6.size; have a3 := HSz.out; omega
        have hH6 := (HQ.out.2.2.1.turn HV.out.2 (by simp; omega)).below hb6
        have hY6 := (HQ.out.2.2.2.1.turn HV.out.2 (by simp; omega)).below hb6
        have hBv := below_turn HQ.out.2.2.2.2.1 HV.out.2 (by simp; omega) HQ.out.2.2.2.2.1.size
        have hB6 := hBv.trans (hb6.mono hBv.size)
        have y0 := hY6.cell 0
        have y1 := hY6.cell 1
        have h0 := hH6.cell 0
        have h1 := hH6.cell 1
        simp only [List.getElem?_toArray, List.getElem?_cons_zero, List.getElem?_cons_succ] at y0 y1 h0 h1
        have l1 := hY6.lt
        have l0 : X < w6.heap.size := by omega
        have H6 := Lib.hid (And.intro hH6 (And.intro hY6 hB6))
        clear hH6 hY6 hBv hB6 hb6 HRp
        have hTm := fun w => etimes_any (yh ^^^ ph) (yl ^^^ pl) hh hl w
        generalize eF (yh ^^^ ph) (yl ^^^ pl) hh hl 128 = s at *
        unfold El at hTm
        have HTm := Lib.hid hTm
        clear hTm
        go_wp2_with (go_at_call 88; refine (HTm.out _).mono ?_; rintro e w7 ⟨rfl, hb7⟩; have hal7 := (Below.refl w6.heap.size w6).alloc (Nat.le_refl _) (.cells #[U64 ph, U64 pl] 88); have hb67 := hal7.trans (hb7.mono hal7.size); have hY7 := H6.out.2.1.below hb67; have hH7 := H6.out.1.below hb67; have hB7 := H6.out.2.2.trans (hb67.mono H6.out.2.2.size); have v0 := hY7.cell 0; have v1 := hY7.cell 1; simp only [List.getElem?_toArray, List.getElem?_cons_zero, List.getElem?_cons_succ] at v0 v1; have f0 := hY7.frozen 0; have f1 := hY7.frozen 1; have hs7 := hb67.size; have H7 := Lib.hid (And.intro hH7 (And.intro hY7 hB7)); clear hal7 hb67 hY7 hH7 hB7 hb7 y0 y1 h0 h1)
        have hT9 : Turn [X + 1] w7 ((w7.setCell ⟨X + 1, 0, none⟩ (U64 s.zh)).setCell ⟨X + 1, 1, none⟩ (U64 s.zl)) := ((Turn.refl _ _).setCell (.inl (by simp)) _).setCell (.inl (by simp)) _
        have hB9 := below_turn H7.out.2.2 hT9 (by simp; omega) H7.out.2.2.size
        have hrB : ∀ {A2 : Option Addr} {n2 c2 : Nat} {l2 : List UInt8}, Rd wr A2 n2 c2 l2 → (∀ ad, A2 = some ad → ad.block < w.heap.size) → Rd ((w7.setCell ⟨X + 1, 0, none⟩ (U64 s.zh)).setCell ⟨X + 1, 1, none⟩ (U64 s.zl)) A2 n2 c2 l2 := fun hr2 hb2 => by
          refine hr2.keep ?_ (fun ad had => ?_)
          · have a1 := hT9.size
            omega
          · have b1 := hB9.block ad.block (hb2 ad had)
            have b2 := HBr.out.block ad.block (hb2 ad had)
            rw [b1, b2]
        have hfin : (r.drop 16).length ≤ f' := by have := HF.out; rw [List.length_drop]; have := HRl.out; omega
        go_roundw
        case rel => exact ⟨some ⟨bb, off + k, none⟩, n' - k, c' - k, r.drop 16, s.zh, s.zl, f', rfl, by omega, hrB HC.out (fun ad had => by cases had; exact hbl), (fun ad had => by cases had; exact hbl), H7.out.1.far (by show X ≠ X + 1; omega) _ |>.far (by show X ≠ X + 1; omega) _, (H7.out.2.1.set_ 0 _).set_ 1 _, hB9, hfin, HG.out⟩
        case measure => simp [sliceLen]; omega
    · obtain rfl : n' = 0 := by omega
      have hr0 : r = [] := List.length_eq_zero_iff.1 hrl.symm
      have hgz : (yh, yl) = ghS hh hl b.length b (0, 0) := by
        rw [← hg, hr0]
        cases fuel <;> rfl
      have y0 := hY.cell 0
      have y1 := hY.cell 1
      simp only [List.getElem?_toArray, List.getElem?_cons_zero, List.getElem?_cons_succ] at y0 y1
      have hw : ∀ w, Calls Try.prog 89 #[.agg #[U64 yh, U64 yl]] w _ := fun w => by have := ewrite_any yh yl w; unfold El at this; exact this
      have HW := Lib.hid hw
      have HB := Lib.hid (And.intro hB hgz)
      clear hr hH hY hB hg hf hr0 hgz hw hal hrl hnc hcm hn63
      go_wp2_with (go_at_call 89; refine (HW.out _).mono ?_; rintro e w8 ⟨g, c, rfl, ho, hb8⟩; have HO := Lib.hid (And.intro ho hb8); clear ho hb8)
      go_ret
      exact ⟨g, c, rfl, by rw [← HB.out.2]; exact HO.out.1.mono HB.out.1.size, HB.out.1.trans (HO.out.2.mono HB.out.1.size)⟩
end Go.Proofs.Ytiocmebcbhbcmaa
namespace Go.Proofs.Ytiocmebcbhbcmaa
set_option maxRecDepth 100000
open Go.RowKit

abbrev V := BitVec 128
def RV : V := 0xe1000000000000000000000000000000#128
def S1 (v : V) : V := (v >>> 1) ^^^ (if v.getLsbD 0 then RV else 0)
def SI : Nat → V → V
  | 0, v => v
  | i + 1, v => S1 (SI i v)
def xs (f : Nat → V) : Nat → V
  | 0 => 0
  | n + 1 => xs f n ^^^ f n
theorem S1_xor (a b : V) : S1 (a ^^^ b) = S1 a ^^^ S1 b := by
  unfold S1
  rw [BitVec.ushiftRight_xor_distrib, BitVec.getLsbD_xor]
  cases a.getLsbD 0 <;> cases b.getLsbD 0 <;> simp
  · rw [BitVec.xor_assoc]
  · rw [BitVec.xor_assoc, BitVec.xor_assoc, BitVec.xor_comm (b >>> 1)]
  · have : (a >>> 1 ^^^ RV) ^^^ (b >>> 1 ^^^ RV) = (a >>> 1 ^^^ b >>> 1) ^^^ (RV ^^^ RV) := by ac_rfl
    rw [this]; simp
theorem S1_zero : S1 0 = 0 := by decide
theorem SI_xor (i : Nat) (a b : V) : SI i (a ^^^ b) = SI i a ^^^ SI i b := by
  induction i with
  | zero => rfl
  | succ i ih => show S1 (SI i (a ^^^ b)) = S1 (SI i a) ^^^ S1 (SI i b); rw [ih, S1_xor]
theorem SI_zero (i : Nat) : SI i 0 = 0 := by
  induction i with
  | zero => rfl
  | succ i ih => show S1 (SI i 0) = 0; rw [ih, S1_zero]
theorem SI_add (i j : Nat) (v : V) : SI i (SI j v) = SI (i + j) v := by
  induction i with
  | zero => rw [Nat.zero_add]; rfl
  | succ i ih => rw [Nat.succ_add]; show S1 (SI i (SI j v)) = S1 (SI (i + j) v); rw [ih]
theorem xs_congr (f g : Nat → V) (n : Nat) (h : ∀ i, i < n → f i = g i) : xs f n = xs g n := by
  induction n with
  | zero => rfl
  | succ n ih => unfold xs; rw [ih (fun i hi => h i (by omega)), h n (by omega)]
theorem SI_xs (i : Nat) (f : Nat → V) (n : Nat) : SI i (xs f n) = xs (fun j => SI i (f j)) n := by
  induction n with
  | zero => exact SI_zero i
  | succ n ih => show SI i (xs f n ^^^ f n) = _; rw [SI_xor, ih]; rfl
theorem xs_xor (f g : Nat → V) (n : Nat) : xs (fun i => f i ^^^ g i) n = xs f n ^^^ xs g n := by
  induction n with
  | zero => simp [xs]
  | succ n ih => unfold xs; rw [ih]; ac_rfl
theorem xs_zero (n : Nat) : xs (fun _ => 0) n = 0 := by
  induction n with
  | zero => rfl
  | succ n ih => unfold xs; rw [ih]; simp
theorem xs_swap (g : Nat → Nat → V) (n m : Nat) : xs (fun i => xs (fun j => g i j) m) n = xs (fun j => xs (fun i => g i j) n) m := by
  induction n with
  | zero => show 0 = xs (fun j => 0) m; rw [xs_zero]
  | succ n ih =>
    show xs (fun i => xs (fun j => g i j) m) n ^^^ xs (fun j => g n j) m = xs (fun j => xs (fun i => g i j) n ^^^ g n j) m
    rw [ih, xs_xor]
/-- The product. -/
def mulV (x y : V) : V := xs (fun i => if x.getMsbD i then SI i y else 0) 128
def EV : V := 1#128 <<< 127
theorem unit_all : ∀ j : Fin 128, SI j.val EV = 1#128 <<< (127 - j.val) := by decide +kernel
theorem unit_bit (j k : Nat) (hj : j < 128) (hk : k < 128) : (1#128 <<< (127 - j)).getMsbD k = decide (k = j) := by
  rw [BitVec.getMsbD_eq_getLsbD]
  simp only [BitVec.getLsbD_shiftLeft, BitVec.getLsbD_one]
  by_cases h : k = j
  · subst h; simp [hk]; omega
  · simp [hk, h]; omega
theorem xs_bits (v : V) (n : Nat) (hn : n ≤ 128) (k : Nat) (hk : k < 128) : (xs (fun j => if v.getMsbD j then 1#128 <<< (127 - j) else 0) n).getMsbD k = (decide (k < n) && v.getMsbD k) := by
  induction n with
  | zero => simp [xs]
  | succ n ih =>
    unfold xs
    rw [BitVec.getMsbD_xor, ih (by omega)]
    by_cases hv : v.getMsbD n
    · rw [if_pos hv, unit_bit n k (by omega) hk]
      by_cases h : k = n
      · subst h; simp [hv]
      · have : decide (k < n + 1) = decide (k < n) := by simp; omega
        simp [h, this]
    · rw [if_neg hv]
      by_cases h : k = n
      · subst h; simp [hv]
      · have : decide (k < n + 1) = decide (k < n) := by simp; omega
        simp [this]
theorem units (v : V) : v = xs (fun j => if v.getMsbD j then SI j EV else 0) 128 := by
  rw [xs_congr _ (fun j => if v.getMsbD j then 1#128 <<< (127 - j) else 0) 128 (fun j hj => by rw [unit_all ⟨j, hj⟩])]
  refine BitVec.eq_of_getMsbD_eq fun k hk => ?_
  rw [xs_bits v 128 (by omega) k hk]
  simp [hk]
theorem mulV_comm (x y : V) : mulV x y = mulV y x := by
  have key : ∀ x y : V, mulV x y = xs (fun i => xs (fun j => if x.getMsbD i && y.getMsbD j then SI (i + j) EV else 0) 128) 128 := fun x y => by
    unfold mulV
    refine xs_congr _ _ 128 fun i _ => ?_
    by_cases hx : x.getMsbD i
    · rw [if_pos hx]
      conv => lhs; rw [units y]
      rw [SI_xs]
      refine xs_congr _ _ 128 fun j _ => ?_
      by_cases hy : y.getMsbD j
      · rw [if_pos hy, SI_add, hx, hy]; rfl
      · rw [if_neg hy, SI_zero]; simp [hy]
    · rw [if_neg hx]
      simp only [hx, Bool.false_and]
      exact (xs_zero 128).symm
  rw [key x y, key y x, xs_swap]
  refine xs_congr _ _ 128 fun j _ => xs_congr _ _ 128 fun i _ => ?_
  rw [Nat.add_comm, Bool.and_comm]
end Go.Proofs.Ytiocmebcbhbcmaa
namespace Go.Proofs.Ytiocmebcbhbcmaa
set_option maxRecDepth 100000
open Go.RowKit

theorem add_B (t : TypeId) (x y : UInt8) : binOp .add t (B x) (B y) = pure (B (x + y)) := by
  show (pure (.int .u8 (IntKind.u8.wrap (x.toNat + y.toNat))) : Sem Value) = _
  rw [wrap_u8, ← B_eq (x := x + y)]
  rw [UInt8.toNat_add]; simp
theorem addI_B (t : TypeId) (x : UInt8) (n : Int) (h0 : 0 ≤ n) (h : n < 256) : binOp .add t (B x) (.int .u8 n) = pure (B (x + UInt8.ofNat n.toNat)) := by
  obtain ⟨m, rfl⟩ := Int.eq_ofNat_of_zero_le h0
  rw [B_lit m (by omega), add_B]; rfl
set_option maxHeartbeats 1000000 in
theorem rxor_any (A C : Option Addr) (ca cb : Nat) (a b : List UInt8) (w : World) (ha : Rd w A 16 ca a) (hb : Rd w C 16 cb b) :
    Calls Try.prog 52 #[.slice A 16 ca, .slice C 16 cb] w fun e w' => e = .returned (.slice (some ⟨w.heap.size, 0, none⟩) 16 16) ∧ Own w' w.heap.size (.slice (some ⟨w.heap.size, 0, none⟩) 16 16) (xorL a b) ∧ Below w.heap.size w w' := by
  have hal : a.length = 16 := ha.1.symm
  have hbl : b.length = 16 := hb.1.symm
  have hca := ha.2.1
  have hcb := hb.2.1
  obtain ⟨ba, oa, rfl, haa⟩ := ha.addr (by omega)
  obtain ⟨bb, ob, rfl, hbb⟩ := hb.addr (by omega)
  obtain ⟨X, hX⟩ : ∃ X, w.heap.size = X := ⟨_, rfl⟩
  have hmk := Try.prog_make 16 (by omega) w
  obtain ⟨w1, hw1⟩ : ∃ w1, w.alloc (.cells (madeCells #[.int .u8 0] 16) 5) = w1 := ⟨_, rfl⟩
  have hO1 : Own w1 X (.slice (some ⟨X, 0, none⟩) 16 16) (zs 16) := by rw [← hw1, ← hX]; exact Own.made w 16 (by unfold maxLen; omega)
  have hB1 : Below X w w1 := by rw [← hw1, ← hX]; exact (Below.refl _ _).alloc (Nat.le_refl _) _
  rw [hw1, hX, show ((16 : Nat) : Int) = 16 from rfl] at hmk
  have hbaX : ba < X := by rw [← hX]; exact haa.1
  have hbbX : bb < X := by rw [← hX]; exact hbb.1
  have HH := Lib.hid (And.intro haa (And.intro hbb (And.intro hal (And.intro hbl (And.intro hO1 hB1)))))
  clear haa hbb ha hb hal hbl hO1 hB1 hw1
  rw [hX]
  go_enter Try.func52, Try.ntmps52
  go_wp2_with fail
  clear hmk
  go_loopw [6] (fun iv wr => ∃ i : Nat, i ≤ 16 ∧ iv = .int .i64 (i : Int) ∧ Own wr X (.slice (some ⟨X, 0, none⟩) 16 16) (mid i (xorL a b) (zs 16)) ∧ Below X w wr) (fun iv _ => 16 - (intOf iv).toNat)
  case atStart => exact ⟨0, by omega, rfl, by rw [mid_zero]; exact HH.out.2.2.2.2.1, HH.out.2.2.2.2.2⟩
  case round =>
    obtain ⟨i, hi, rfl, hO, hB⟩ := hrel
    by_cases hlt : i < 16
    · have hq : (i : Int) < 16 := by omega
      obtain ⟨x, hx⟩ := at16 a HH.out.2.2.1 i hlt
      obtain ⟨y, hy⟩ := at16 b HH.out.2.2.2.1 i hlt
      have hxy := xorL_at a b i x y hx hy
      have y0 : wr.cell? ⟨ba, oa + i, none⟩ = some (B x) := by rw [hB.cell (p := ⟨ba, oa + i, none⟩) hbaX]; exact HH.out.1.2 i x hx
      have y1 : wr.cell? ⟨bb, ob + i, none⟩ = some (B y) := by rw [hB.cell (p := ⟨bb, ob + i, none⟩) hbbX]; exact HH.out.2.1.2 i y hy
      obtain ⟨z, hz⟩ := at16 (mid i (xorL a b) (zs 16)) hO.len.symm i hlt
      have y2 := hO.cell i z hz
      have y3 := hO.frozen i
      have hqa : (i : Int) < ca := by omega
      have HS := Lib.hid (And.intro hO (And.intro hB hxy))
      clear hO hB hxy hx hy hz
      go_wp2_with fail
      go_still_tail 12, (by kernel_rfl)
      go_wp2_with fail
      have h1 := HS.out.1.set_ i (x ^^^ y) hlt
      rw [mid_set _ _ _ _ HS.out.2.2 (by rw [zs_len]; exact hlt)] at h1
      have hT : Turn [X] wr (wr.setCell ⟨X, i, none⟩ (B (x ^^^ y))).drew := ((Turn.refl _ _).setCell (p := ⟨X, i, none⟩) (.inl (by simp)) _).drew
      go_roundw
      case rel => exact ⟨i + 1, by omega, by go_num, h1, below_turn HS.out.2.1 hT (by simp) (by rw [← hX]; have := HS.out.2.1.size; omega)⟩
      case measure => simp [intOf]; omega
    · obtain rfl : i = 16 := by omega
      have hq : ¬ ((16 : Int) < 16) := by omega
      rw [mid_all _ _ 16 (xorL_len _ _ 16 HH.out.2.2.1 HH.out.2.2.2.1) (zs_len 16)] at hO
      have HS := Lib.hid (And.intro hO hB)
      clear hO hB hi hlt
      go_wp2_with fail
      go_ret
      exact ⟨rfl, HS.out.1, HS.out.2⟩
end Go.Proofs.Ytiocmebcbhbcmaa
