/-
  Modes: all at once: All.
  Modes: CMAC: double.
  Modes: CMAC.
-/
import Derived.Test.YtiocmebcbhbcmaaZzMo17
namespace Go.Proofs.Ytiocmebcbhbcmaa
set_option maxRecDepth 100000
open Go.RowKit

/-- What All gives. -/
def allF (mode : Int) (enc : Bool) (k p b : List UInt8) : List UInt8 × Int :=
  if mode < 1 ∨ 5 < mode then ([], 112) else if ¬ keyOk k then ([], 98) else if ¬ parOk mode.toNat p then ([], 113)
  else if ((PSof mode.toNat enc k p).fin b).2 = 0 then ((PSof mode.toNat enc k p).front b ++ ((PSof mode.toNat enc k p).fin b).1, 0) else ([], ((PSof mode.toNat enc k p).fin b).2)
def AllRes (w : World) (r : List UInt8 × Int) (e : Ending) (w' : World) : Prop := ∃ A n c, e = .returned (.tuple #[.slice A n c, .int .i64 r.2]) ∧ Own w' w.heap.size (.slice A n c) r.1 ∧ Old w w'
theorem PS.front_nil (s : PS) : s.front [] = [] := by
  unfold PS.front PS.blk
  rw [PS.nb0]
  split
  · rfl
  · split
    · split <;> rfl
    · rfl
theorem Old.turnG {w w1 w2 : World} {G : List Nat} (h : Old w w1) (ht : Turn G w1 w2) (hG : ∀ x ∈ G, w.heap.size ≤ x) : Old w w2 := below_turn h ht hG h.size
set_option maxHeartbeats 2000000 in
theorem modesAll_any (mode : Int) (enc : Bool) (A C B : Option Addr) (mk ck m cm n cn : Nat) (k p b : List UInt8) (w : World) (hk : Rd w A mk ck k) (hp : Rd w C m cm p) (hb : Rd w B n cn b) (hm : m ≤ 100000) (hn : n ≤ 100000) :
    Calls Try.prog 13 #[.int .i64 mode, .bool enc, .slice A mk ck, .slice C m cm, .slice B n cn] w (AllRes w (allF mode enc k p b)) := by
  obtain ⟨RES, hRES⟩ : ∃ r, allF mode enc k p b = r := ⟨_, rfl⟩
  rw [hRES]
  unfold allF at hRES
  by_cases hmode : mode < 1 ∨ 5 < mode
  · rw [if_pos hmode] at hRES
    have hcall := new_mode mode enc A C mk ck m cm w hmode
    have HH := Lib.hid (And.intro hcall hRES)
    clear hcall hRES hmode hk hp hb
    go_enter Try.func13, Try.ntmps13
    go_wp2_with fail
    refine HH.out.1.mono ?_
    rintro e w1 ⟨rfl, rfl⟩
    go_wp2_with fail
    refine bodyPost_ret (results_tmp2 rfl _ _ _) rfl ?_
    rw [← HH.out.2]
    exact ⟨none, 0, 0, rfl, Own.nil _ _, Old.refl _⟩
  · rw [if_neg hmode] at hRES
    obtain ⟨mo, rfl⟩ := Int.eq_ofNat_of_zero_le (show 0 ≤ mode by omega)
    rw [Int.toNat_natCast] at hRES
    have hcall := modesNew_any mo enc A C mk ck m cm k p w hk hp (by omega) (by omega) (by omega)
    by_cases hko : keyOk k
    · rw [if_neg (fun h => h hko)] at hRES
      by_cases hpo : parOk mo p
      · rw [if_neg (fun h => h hpo)] at hRES
        have hpost : ∀ e w', NewPost w mo enc k p e w' → ∃ d, e = .returned (.tuple #[.pointer (some ⟨d, 0, none⟩), .int .i64 0]) ∧ NewRes w (PSof mo enc k p) w' d := fun e w' h => by
          unfold NewPost at h
          rwa [if_neg (fun h => h hko), if_neg (fun h => h hpo)] at h
        obtain ⟨s, hs⟩ : ∃ s, PSof mo enc k p = s := ⟨_, rfl⟩
        rw [hs] at hRES hpost
        have hc0 : s.mode = 4 ∨ s.mode = 5 → s.c0.length = 16 := s.c0_len (by rw [← hs]; exact hpo)
        have hsp : s.p = p := by rw [← hs]; rfl
        have hdl : s.data.length ≤ 100000 := by
          unfold PS.data
          rw [List.length_drop, hsp]
          have := hp.1
          omega
        have hnb := hb.1
        have HH := Lib.hid (And.intro (hcall.mono hpost) (And.intro hRES (And.intro hc0 (And.intro hdl (And.intro hb hnb)))))
        clear hcall hpost hRES hc0 hsp hdl hb hnb hk hp hko hpo hmode hs
        go_enter Try.func13, Try.ntmps13
        go_wp2_with fail
        refine HH.out.1.mono ?_
        rintro e w1 ⟨d, rfl, G, hS, hG, hO⟩
        have H1 := Lib.hid (And.intro hS (And.intro hG hO))
        clear hS hG hO
        go_wp2_with fail
        refine (update_any G d s [] B n cn b w1 H1.out.1 HH.out.2.2.1 (HH.out.2.2.2.2.1.below H1.out.2.2) (fun ad e hm => by have h1 := (H1.out.2.1 _ hm).1; have h2 := HH.out.2.2.2.2.1.lt ad e; omega) (fun x hx => (H1.out.2.1 x hx).2) (by simp; omega)).mono ?_
        rintro e w2 ⟨A2, n2, c2, G2, rfl, u1, u2, u3, u4, u5, u6, u7⟩
        rw [List.nil_append, s.front_nil, List.length_nil, List.drop_zero] at u1
        rw [List.nil_append] at u2
        have hO2 : Old w w2 := H1.out.2.2.turnG u3 (fun x hx => (H1.out.2.1 x hx).1)
        have hG2 : ∀ x ∈ G2, w.heap.size ≤ x := fun x hx => by
          rcases u4 x hx with h | h
          · exact (H1.out.2.1 x h).1
          · exact Nat.le_trans H1.out.2.2.size h
        have H2 := Lib.hid (And.intro u1 (And.intro u2 (And.intro hO2 (And.intro hG2 (And.intro u6 (And.intro u7 u3.size))))))
        clear u1 u2 u3 u4 u5 u6 u7 hO2 hG2
        go_wp2_with fail
        refine (final_any G2 d s b w2 H2.out.2.1 HH.out.2.2.1 HH.out.2.2.2.1 (by have := HH.out.2.2.2.2.2; omega)).mono ?_
        rintro e w3 ⟨A3, n3, c3, rfl, v1, v2, v3, v4⟩
        obtain ⟨rv, hrv⟩ : ∃ rv, (s.fin b).2 = rv := ⟨_, rfl⟩
        have hR := HH.out.2.1
        rw [hrv] at hR ⊢
        have H3 := Lib.hid (And.intro v1 (And.intro (H2.out.2.2.1.turnG v3 H2.out.2.2.2.1) (And.intro v4 (H2.out.1.turn v3 (fun g hg => H2.out.2.2.2.2.1 g hg)))))
        have hs21 : w.heap.size ≤ w1.heap.size := H1.out.2.2.size
        have hs31 : w1.heap.size ≤ w3.heap.size := Nat.le_trans H2.out.2.2.2.2.2.2 v3.size
        clear v1 v2 v3 v4
        by_cases hz : rv = 0
        · subst hz
          rw [if_pos rfl] at hR
          have HR := Lib.hid hR
          clear hR hrv
          go_wp2_with (at_builtin; refine wp_app2 (.tmp 38) (.tmp 39) w1.heap.size (.slice A2 n2 c2) _ H3.out.2.2.2 hs31 A3 n3 c3 _ H3.out.1 (by have h1 := H2.out.1.len; have h2 := H3.out.1.1; have h3 := H2.out.2.2.2.2.2.1; have h4 := H3.out.2.2.1; have h5 := HH.out.2.2.2.2.2; simp only [List.length_nil] at h3; omega) rfl rfl rfl rfl ?_; intro A5 n5 c5 w5 hn5 hG5; have H5 := Lib.hid hG5; clear hG5)
          refine bodyPost_ret (results_tmp2 rfl _ _ _) rfl ?_
          rw [← HR.out]
          exact ⟨A5, n5, c5, rfl, H5.out.own.mono hs21, H3.out.2.1.trans_below (H5.out.below.mono hs21)⟩
        · have hzb : (rv != 0) = true := by simp; exact hz
          rw [if_neg hz] at hR
          have HR := Lib.hid hR
          clear hR hrv
          go_wp2_with fail
          refine bodyPost_ret (results_tmp2 rfl _ _ _) rfl ?_
          rw [← HR.out]
          exact ⟨none, 0, 0, rfl, Own.nil _ _, H3.out.2.1⟩
      · rw [if_pos hpo] at hRES
        have hpost : ∀ e w', NewPost w mo enc k p e w' → e = .returned (.tuple #[.pointer none, .int .i64 113]) ∧ Old w w' := fun e w' h => by
          unfold NewPost at h
          rwa [if_neg (fun h => h hko), if_pos hpo] at h
        have HH := Lib.hid (And.intro (hcall.mono hpost) hRES)
        clear hcall hpost hRES hb hk hp hko hpo hmode
        go_enter Try.func13, Try.ntmps13
        go_wp2_with fail
        refine HH.out.1.mono ?_
        rintro e w1 ⟨rfl, hO⟩
        have HO := Lib.hid hO
        clear hO
        go_wp2_with fail
        refine bodyPost_ret (results_tmp2 rfl _ _ _) rfl ?_
        rw [← HH.out.2]
        exact ⟨none, 0, 0, rfl, Own.nil _ _, HO.out⟩
    · rw [if_pos hko] at hRES
      have hpost : ∀ e w', NewPost w mo enc k p e w' → e = .returned (.tuple #[.pointer none, .int .i64 98]) ∧ Old w w' := fun e w' h => by
        unfold NewPost at h
        rwa [if_pos hko] at h
      have HH := Lib.hid (And.intro (hcall.mono hpost) hRES)
      clear hcall hpost hRES hb hk hp hko hmode
      go_enter Try.func13, Try.ntmps13
      go_wp2_with fail
      refine HH.out.1.mono ?_
      rintro e w1 ⟨rfl, hO⟩
      have HO := Lib.hid hO
      clear hO
      go_wp2_with fail
      refine bodyPost_ret (results_tmp2 rfl _ _ _) rfl ?_
      rw [← HH.out.2]
      exact ⟨none, 0, 0, rfl, Own.nil _ _, HO.out⟩
end Go.Proofs.Ytiocmebcbhbcmaa
namespace Go.Proofs.Ytiocmebcbhbcmaa
set_option maxRecDepth 100000
open Go.RowKit

def dblB (b : List UInt8) (i : Nat) : UInt8 := if i < 15 then (b.getD i 0 <<< 1) ||| (b.getD (i + 1) 0 >>> 7) else b.getD i 0 <<< 1
def dblM (b : List UInt8) : List UInt8 := (List.range 16).map (dblB b)
def dblL (b : List UInt8) : List UInt8 := (dblM b).set 15 (dblB b 15 ^^^ ((b.getD 0 0 >>> 7) * 135))
theorem dblM_len (b : List UInt8) : (dblM b).length = 16 := by simp [dblM]
theorem dblL_len (b : List UInt8) : (dblL b).length = 16 := by simp [dblL, dblM]
theorem dblM_at (b : List UInt8) (i : Nat) (h : i < 16) : (dblM b)[i]? = some (dblB b i) := by unfold dblM; rw [List.getElem?_map, List.getElem?_range h]; rfl
theorem getD_some {b : List UInt8} {i : Nat} {x : UInt8} (h : b[i]? = some x) : b.getD i 0 = x := by rw [List.getD_eq_getElem?_getD, h]; rfl
set_option maxHeartbeats 2000000 in
theorem double_any (A : Option Addr) (c : Nat) (b : List UInt8) (w : World) (h : Rd w A 16 c b) :
    Calls Try.prog 46 #[.slice A 16 c] w fun e w' => e = .returned (.slice (some ⟨w.heap.size, 0, none⟩) 16 16) ∧ Own w' w.heap.size (.slice (some ⟨w.heap.size, 0, none⟩) 16 16) (dblL b) ∧ Old w w' := by
  have hbl : b.length = 16 := h.1.symm
  have hc16 := h.2.1
  obtain ⟨bb, ob, rfl, hat⟩ := h.addr (by decide)
  obtain ⟨X, hX⟩ : ∃ X, w.heap.size = X := ⟨_, rfl⟩
  have hmk := Try.prog_make 16 (by omega) w
  obtain ⟨w1, hw1⟩ : ∃ w1, w.alloc (.cells (madeCells #[.int .u8 0] 16) 5) = w1 := ⟨_, rfl⟩
  have hO1 : Own w1 X (.slice (some ⟨X, 0, none⟩) 16 16) (zs 16) := by rw [← hw1, ← hX]; exact Own.made w 16 (by unfold maxLen; omega)
  have hB1 : Old w w1 := by rw [← hw1]; exact (Old.refl _).alloc _
  rw [hw1, hX, show ((16 : Nat) : Int) = 16 from rfl] at hmk
  have hbX : bb < X := by rw [← hX]; exact hat.1
  have HH := Lib.hid (And.intro hat (And.intro hbl (And.intro hO1 hB1)))
  have HX := Lib.hid hX
  clear h hat hbl hO1 hB1 hw1
  rw [hX]
  clear hX
  have hld : ∀ (wr : World), Old w wr → ∀ i x, b[i]? = some x → wr.cell? ⟨bb, ob + i, none⟩ = some (B x) := fun wr hO i x hx => cellOld' hO (HH.out.1.2 i x hx)
  have HL := Lib.hid hld
  clear hld
  go_enter Try.func46, Try.ntmps46
  go_wp2_with fail
  clear hmk
  go_loopw [8] (fun iv wr => ∃ i : Nat, i ≤ 16 ∧ iv = .int .i64 (i : Int) ∧ Own wr X (.slice (some ⟨X, 0, none⟩) 16 16) (mid i (dblM b) (zs 16)) ∧ Old w wr) (fun iv _ => 16 - (intOf iv).toNat)
  case atStart => exact ⟨0, by omega, rfl, by rw [mid_zero]; exact HH.out.2.2.1, HH.out.2.2.2⟩
  case round =>
    obtain ⟨i, hi, rfl, hO, hB⟩ := hrel
    by_cases hlt : i < 16
    · have hq : (i : Int) < 16 := by omega
      obtain ⟨x, hx⟩ : ∃ x, b[i]? = some x := ⟨_, List.getElem?_eq_getElem (by rw [HH.out.2.1]; exact hlt)⟩
      obtain ⟨z, hz⟩ : ∃ z, (mid i (dblM b) (zs 16))[i]? = some z := ⟨_, List.getElem?_eq_getElem (by rw [← hO.len]; exact hlt)⟩
      have y0 := HL.out wr hB i x hx
      have y2 := hO.cell i z hz
      have y3 := hO.frozen i
      have hO2 := hO.set_ i (x <<< 1) hlt
      have hT2 : Turn [X] wr (wr.setCell ⟨X, i, none⟩ (B (x <<< 1))) := (Turn.refl _ _).setCell (p := ⟨X, i, none⟩) (.inl (by simp)) _
      have hB2 : Old w (wr.setCell ⟨X, i, none⟩ (B (x <<< 1))) := below_turn hB hT2 (by simp; rw [HX.out]; exact Nat.le_refl _) hB.size
      have hms := fun y (hy : (dblM b)[i]? = some y) => mid_set i (dblM b) (zs 16) y hy (by rw [zs_len]; exact hlt)
      obtain ⟨j, hj⟩ : ∃ j, i + 1 = j := ⟨_, rfl⟩
      have hji : (i : Int) + 1 = (j : Int) := by omega
      have hwi : IntKind.i64.wrap (j : Int) = (j : Int) := IntWalk.i64_in _ (by omega)
      by_cases h15 : i < 15
      · have h15j : (j : Int) < 16 := by omega
        have h15d : decide ((j : Int) < 16) = true := decide_eq_true h15j
        obtain ⟨x2, hx2⟩ : ∃ x2, b[j]? = some x2 := ⟨_, List.getElem?_eq_getElem (by rw [HH.out.2.1]; omega)⟩
        have y4 := HL.out _ hB2 j x2 hx2
        have hd : dblB b i = (x <<< 1) ||| (x2 >>> 7) := by unfold dblB; rw [if_pos h15, getD_some hx, hj, getD_some hx2]
        have hO3 := hO2.set_ i ((x <<< 1) ||| (x2 >>> 7)) hlt
        have y5 := hO2.cell i (x <<< 1) (by rw [List.getElem?_set_self (by rw [← hO.len]; exact hlt)])
        have y6 := hO2.frozen i
        rw [List.set_set, hms _ (by rw [dblM_at b i hlt, hd])] at hO3
        obtain ⟨wB, hwB⟩ : ∃ wB, wr.setCell ⟨X, i, none⟩ (B (x <<< 1)) = wB := ⟨_, rfl⟩
        rw [hwB] at hO2 hB2 y4 y5 y6 hO3
        have hT3 : Turn [X] wB (wB.setCell ⟨X, i, none⟩ (B ((x <<< 1) ||| (x2 >>> 7)))).drew := ((Turn.refl _ _).setCell (p := ⟨X, i, none⟩) (.inl (by simp)) _).drew
        have hB3 : Old w (wB.setCell ⟨X, i, none⟩ (B ((x <<< 1) ||| (x2 >>> 7)))).drew := below_turn hB2 hT3 (by simp; rw [HX.out]; exact Nat.le_refl _) hB2.size
        have HS := Lib.hid (And.intro hO3 hB3)
        have HW := Lib.hid (And.intro hwB hj)
        clear hO hB hx hz hO2 hT2 hB2 hms hd hO3 hx2 hwB h15 hT3 hB3 hj
        go_upto_region 7 with fail
        rw [HW.out.1]
        go_still_tail 12, (by kernel_rfl)
        go_wp2_with fail
        go_roundw
        case rel => exact ⟨j, by omega, rfl, by rw [← HW.out.2]; exact HS.out.1, HS.out.2⟩
        case measure => have := HW.out.2; simp [intOf]; omega
      · have h15j : ¬ (j : Int) < 16 := by omega
        have h15d : decide ((j : Int) < 16) = false := decide_eq_false h15j
        have hd : dblB b i = x <<< 1 := by unfold dblB; rw [if_neg h15, getD_some hx]
        rw [hms _ (by rw [dblM_at b i hlt, hd])] at hO2
        have HS := Lib.hid (And.intro hO2 hB2)
        have HW := Lib.hid hj
        clear hO hB hx hz hO2 hT2 hB2 hms hd h15 hj
        go_wp2_with fail
        go_roundw
        case rel => exact ⟨j, by omega, rfl, by rw [← HW.out]; exact HS.out.1, HS.out.2⟩
        case measure => have := HW.out; simp [intOf]; omega
    · obtain rfl : i = 16 := by omega
      have hq : ¬ ((16 : Nat) : Int) < 16 := by omega
      rw [mid_all _ _ 16 (dblM_len b) (zs_len 16)] at hO
      obtain ⟨x0, hx0⟩ : ∃ x, b[0]? = some x := ⟨_, List.getElem?_eq_getElem (by rw [HH.out.2.1]; omega)⟩
      have y0 := HL.out wr hB 0 x0 hx0
      rw [Nat.add_zero] at y0
      have y2 := hO.cell 15 _ (dblM_at b 15 (by omega))
      have y3 := hO.frozen 15
      have hd : dblL b = (dblM b).set 15 (dblB b 15 ^^^ ((x0 >>> 7) * 135)) := by unfold dblL; rw [getD_some hx0]
      obtain ⟨z, hz⟩ : ∃ z, dblB b 15 = z := ⟨_, rfl⟩
      rw [hz] at y2 hd
      have hO2 := hO.set_ 15 (z ^^^ ((x0 >>> 7) * 135)) (by omega)
      rw [← hd] at hO2
      have hT3 : Turn [X] wr (wr.setCell ⟨X, 15, none⟩ (B (z ^^^ ((x0 >>> 7) * 135)))).drew := ((Turn.refl _ _).setCell (p := ⟨X, 15, none⟩) (.inl (by simp)) _).drew
      have hB3 : Old w (wr.setCell ⟨X, 15, none⟩ (B (z ^^^ ((x0 >>> 7) * 135)))).drew := below_turn hB hT3 (by simp; rw [HX.out]; exact Nat.le_refl _) hB.size
      have HS := Lib.hid (And.intro hO2 hB3)
      clear hO hB hx0 hd hz hO2 hT3 hB3
      go_upto_region 9 with fail
      go_still_tail 10, (by kernel_rfl)
      go_wp2_with fail
      go_ret
      exact ⟨rfl, HS.out.1, HS.out.2⟩
end Go.Proofs.Ytiocmebcbhbcmaa
namespace Go.Proofs.Ytiocmebcbhbcmaa
set_option maxRecDepth 100000
open Go.RowKit

def cmG (E : List UInt8 → List UInt8) : Nat → List UInt8 → List UInt8 → List UInt8
  | 0, out, m => xorL out m
  | f + 1, out, m => if m.length ≤ 16 then xorL out m else cmG E f (E (xorL out m)) (m.drop 16)
def cmOdd (b : List UInt8) : Prop := b.length = 0 ∨ 0 < b.length % 16
instance (b : List UInt8) : Decidable (cmOdd b) := by unfold cmOdd; infer_instance
def cmK (E : List UInt8 → List UInt8) (b : List UInt8) : List UInt8 := if cmOdd b then dblL (dblL (E (zs 16))) else dblL (E (zs 16))
def cmM (b : List UInt8) : List UInt8 := if cmOdd b then (b ++ [128]) ++ zs (padM (b ++ [128]).length) else b
def cmacF (E : List UInt8 → List UInt8) (b : List UInt8) : List UInt8 := E (xorL (cmG E (cmM b).length (zs 16) (cmM b)) (cmK E b))
theorem cmM_len (b : List UInt8) : 16 ≤ (cmM b).length ∧ (cmM b).length % 16 = 0 := by
  unfold cmM
  split
  · rw [List.length_append, zs_len]
    have : (b ++ [128]).length = b.length + 1 := by simp
    rw [this]
    unfold padM
    omega
  · rename_i h
    unfold cmOdd at h
    omega
theorem cmac_no (A C : Option Addr) (m c n cb : Nat) (w : World) (h : m ≠ 16 ∧ m ≠ 24 ∧ m ≠ 32) :
    Calls Try.prog 22 #[.slice A m c, .slice C n cb] w fun e w' => e = .returned (.slice none 0 0) ∧ w' = w := by
  have hc := new_no A m c w h
  clear h
  go_enter Try.func22, Try.ntmps22
  go_wp2_with fail
  refine hc.mono ?_
  rintro e w1 ⟨rfl, hw⟩
  subst hw
  go_wp2_with fail
  go_ret
  exact ⟨rfl, rfl⟩
set_option maxHeartbeats 4000000 in
theorem cmac_any (A C : Option Addr) (mk ck n cb : Nat) (k b : List UInt8) (w : World) (hk : Rd w A mk ck k) (hb : Rd w C n cb b) (hko : keyOk k) (hn : n ≤ 90000) :
    Calls Try.prog 22 #[.slice A mk ck, .slice C n cb] w fun e w' => ∃ g, e = .returned (.slice (some ⟨g, 0, none⟩) 16 16) ∧ Rd w' (some ⟨g, 0, none⟩) 16 16 (cmacF (encL (rks k) ((rks k).length / 16)) b) ∧ Old w w' := by
  have hcall := new_any A mk ck k w hk hko
  obtain ⟨TG, hTG⟩ : ∃ T, cmacF (encL (rks k) ((rks k).length / 16)) b = T := ⟨_, rfl⟩
  rw [hTG]
  have HH := Lib.hid (And.intro hcall (And.intro hb (And.intro hb.1 hTG)))
  clear hcall hk hb hTG
  go_enter Try.func22, Try.ntmps22
  go_wp2_with fail
  refine HH.out.1.mono ?_
  rintro e w1 ⟨c, kb, R, cq, rfl, hC, hB⟩
  have hR : (rks k).length / 16 = R := by have : (rks k).length = 16 * R := hC.2.2.2.2.2.1; omega
  have hTG := HH.out.2.2.2
  rw [hR] at hTG
  have hC0 : Cip w1 0 c (rks k) kb R cq := ⟨hC.1, Nat.zero_le _, Nat.zero_le _, hC.2.2.2⟩
  have hEl : ∀ l : List UInt8, l.length = 16 → (encL (rks k) R l).length = 16 := fun l hl => enc_ne _ R l hl hC.2.2.2.2.2.1
  obtain ⟨E, hE⟩ : ∃ E, encL (rks k) R = E := ⟨_, rfl⟩
  have henc : ∀ (W : World) (A' : Option Addr) (ca : Nat) (l : List UInt8), Old w1 W → Rd W A' 16 ca l → Calls Try.prog 47 #[.pointer (some ⟨c, 0, none⟩), .slice A' 16 ca] W fun e w' => ∃ sb : Nat, e = .returned (.slice (some ⟨sb, 0, none⟩) 16 16) ∧ Rd w' (some ⟨sb, 0, none⟩) 16 16 (E l) ∧ Old W w' := fun W A' ca l hO hr => by
    refine (enc_any 0 c (rks k) kb R cq A' ca l W (hC0.below hO) hr).mono ?_
    rintro e w' ⟨sb, rfl, _, hS, hb⟩
    exact ⟨sb, rfl, by rw [← hE]; exact hS.rd, hb⟩
  rw [hE] at hEl hTG
  have hmk := Try.prog_make 16 (by omega) w1
  obtain ⟨wm, hwm⟩ : ∃ wm, w1.alloc (.cells (madeCells #[.int .u8 0] 16) 5) = wm := ⟨_, rfl⟩
  have hOm : Own wm w1.heap.size (.slice (some ⟨w1.heap.size, 0, none⟩) 16 16) (zs 16) := by rw [← hwm]; exact Own.made w1 16 (by unfold maxLen; omega)
  have hBm : Old w1 wm := by rw [← hwm]; exact (Old.refl _).alloc _
  rw [hwm, show ((16 : Nat) : Int) = 16 from rfl] at hmk
  have H1 := Lib.hid (And.intro henc (And.intro hEl (And.intro hB (And.intro hOm (And.intro hBm hTG)))))
  clear hC hC0 henc hEl hE hR hB hko hOm hBm hTG hwm
  go_upto_region 5 with (first | (go_at_call 47; refine (H1.out.1 wm _ _ _ H1.out.2.2.2.2.1 H1.out.2.2.2.1.rd).mono ?_; rintro e we ⟨ge, rfl, hRe, hBe⟩; have HE := Lib.hid (And.intro hRe hBe); clear hRe hBe) | (go_at_call 46; refine (double_any _ _ _ we HE.out.1).mono ?_; rintro e wk ⟨rfl, hOk, hBk⟩; have HK := Lib.hid (And.intro hOk.rd ((H1.out.2.2.2.2.1.trans HE.out.2).trans hBk)); clear hOk hBk))
  clear hmk
  go_wp2_with fail
  refine (clone_own C n cb b wk ((HH.out.2.1.below H1.out.2.2.1).below HK.out.2) (by omega)).mono ?_
  rintro e w3 ⟨A3, n3, c3, rfl, ho3, hB3⟩
  have B3 := Lib.hid hB3.size
  have hn3 : n3 = b.length := ho3.len
  have hn3b : n3 ≤ 90000 := by have := HH.out.2.2.1; omega
  have H3 := Lib.hid (And.intro ho3 (And.intro (HK.out.2.trans hB3) (And.intro (HK.out.1.below hB3) hn3)))
  clear ho3 hB3 hn3
  go_upto_region 6 with fail
  go_cut [26] (fun v wx => v = .bool (decide (cmOdd b)) ∧ w3 = wx)
  case first =>
    have hn3 := H3.out.2.2.2
    by_cases h0 : n3 = 0
    · have hd : decide (cmOdd b) = true := decide_eq_true (.inl (by omega))
      have HD := Lib.hid hd
      subst h0
      clear hn3 hd
      go_wp2_with fail
      go_meet
      case rel => exact ⟨by rw [HD.out], rfl⟩
    · have hb0 : ((n3 : Int) == 0) = false := by simp; omega
      have hi0 : ¬ (n3 : Int) = 0 := by omega
      by_cases h16 : 0 < n3 % 16
      · have hd : decide (cmOdd b) = true := decide_eq_true (.inr (by omega))
        have hg : (n3 : Int) % 16 > 0 := by omega
        have hgd : decide ((n3 : Int) % 16 > 0) = true := decide_eq_true hg
        have HD := Lib.hid hd
        clear hn3 hd h0 h16
        go_wp2_with fail
        go_meet
        case rel => exact ⟨by rw [HD.out], rfl⟩
      · have hd : decide (cmOdd b) = false := decide_eq_false (fun h => by unfold cmOdd at h; omega)
        have hg : ¬ (n3 : Int) % 16 > 0 := by omega
        have hgd : decide ((n3 : Int) % 16 > 0) = false := decide_eq_false hg
        have HD := Lib.hid hd
        clear hn3 hd h0 h16
        go_wp2_with fail
        go_meet
        case rel => exact ⟨by rw [HD.out], rfl⟩
  case rest =>
    obtain ⟨rfl, rfl⟩ := hcut
    obtain ⟨od, hod⟩ : ∃ od, decide (cmOdd b) = od := ⟨_, rfl⟩
    rw [hod]
    have HOd := Lib.hid hod
    clear hod
    go_upto_if 26 with fail
    go_cut [1, 6] from 7 to 52 (fun vb vk wx => ∃ (A4 : Option Addr) (n4 c4 : Nat) (gk : Nat), vb = .slice A4 n4 c4 ∧ vk = .slice (some ⟨gk, 0, none⟩) 16 16 ∧ Rd wx A4 n4 c4 (cmM b) ∧ Rd wx (some ⟨gk, 0, none⟩) 16 16 (cmK E b) ∧ Old w1 wx)
    case first =>
      cases od with
      | true =>
        have hodd : cmOdd b := of_decide_eq_true HOd.out
        have hM : cmM b = (b ++ [128]) ++ zs (padM (b ++ [128]).length) := by unfold cmM; rw [if_pos hodd]
        have hK : cmK E b = dblL (dblL (E (zs 16))) := by unfold cmK; rw [if_pos hodd]
        have HM := Lib.hid (And.intro hM hK)
        clear hodd hM hK
        go_wp2_with (first | (go_at_call 46; refine (double_any _ _ _ _ H3.out.2.2.1).mono ?_; rintro e w5 ⟨rfl, hO5, hB5⟩; have H5 := Lib.hid (And.intro hO5.rd hB5); clear hO5 hB5) | (at_builtin; refine wp_app_lit (.tmp 29) (.tmp 30) wk.heap.size (.slice A3 n3 c3) b (H3.out.1.below H5.out.2) (Nat.le_trans B3.out H5.out.2.size) [128] (by have := H3.out.2.2.2; omega) (by simp) rfl rfl rfl rfl rfl rfl ?_; intro A6 n6 c6 w6 hn6 hG; have H6 := Lib.hid hG; clear hG) | (go_at_call 48; refine (filled_any A6 n6 c6 _ w6 H6.out.own.rd (by simp; have := H3.out.2.2.2; omega)).mono ?_; rintro e w7 ⟨A7, n7, c7, rfl, ho7, hB7⟩; have H7 := Lib.hid (And.intro ho7 hB7); clear ho7 hB7))
        go_meet
        case rel =>
          have hk6 : Rd w6 (some ⟨w3.heap.size, 0, none⟩) 16 16 (dblL (dblL (E (zs 16)))) := ((H5.out.1.below ((Old.refl _).alloc _)).turn (Turn.of_grown H6.out.grown) (fun ad e hm => by
            cases e
            have := (H3.out.1.lt (by simpa using hm)).2
            omega))
          have hw1k : w1.heap.size ≤ wk.heap.size := HK.out.2.size
          exact ⟨A7, n7, c7, _, rfl, rfl, by rw [HM.out.1]; exact H7.out.1.rd, by rw [HM.out.2]; exact hk6.below H7.out.2, (((H3.out.2.1.trans H5.out.2).alloc _).trans_below (H6.out.below.mono hw1k)).trans H7.out.2⟩
      | false =>
        have hodd : ¬ cmOdd b := of_decide_eq_false HOd.out
        have hM : cmM b = b := by unfold cmM; rw [if_neg hodd]
        have hK : cmK E b = dblL (E (zs 16)) := by unfold cmK; rw [if_neg hodd]
        have HM := Lib.hid (And.intro hM hK)
        clear hodd hM hK
        go_wp2_with fail
        go_meet
        case rel => exact ⟨A3, n3, c3, _, rfl, rfl, by rw [HM.out.1]; exact H3.out.1.rd, by rw [HM.out.2]; exact H3.out.2.2.1, H3.out.2.1⟩
    case rest =>
      obtain ⟨A4, n4, c4, gk, rfl, rfl, hM, hK, hO4⟩ := hcut
      have hmk := Try.prog_make 16 (by omega) wc
      obtain ⟨wn, hwn⟩ : ∃ wn, wc.alloc (.cells (madeCells #[.int .u8 0] 16) 5) = wn := ⟨_, rfl⟩
      have hOn : Own wn wc.heap.size (.slice (some ⟨wc.heap.size, 0, none⟩) 16 16) (zs 16) := by rw [← hwn]; exact Own.made wc 16 (by unfold maxLen; omega)
      have hBn : Old wc wn := by rw [← hwn]; exact (Old.refl _).alloc _
      rw [hwn, show ((16 : Nat) : Int) = 16 from rfl] at hmk
      have HN := Lib.hid (And.intro (hM.below hBn) (And.intro (hK.below hBn) (And.intro (hO4.trans hBn) hOn)))
      have hn4 : n4 ≤ 100000 := by
        have h1 := hM.1
        have h2 := HH.out.2.2.1
        rw [h1]
        unfold cmM
        split
        · have := padM_le (b ++ [128]).length
          simp only [List.length_append, zs_len, List.length_cons, List.length_nil] at this ⊢
          omega
        · omega
      clear hM hK hO4 hwn hOn hBn
      go_wp2_with fail
      clear hmk
      go_loopw [1, 7] (fun vb vo wr => ∃ (A5 : Option Addr) (n5 c5 : Nat) (m : List UInt8) (sb : Nat) (out : List UInt8) (f : Nat), vb = .slice A5 n5 c5 ∧ vo = .slice (some ⟨sb, 0, none⟩) 16 16 ∧ Rd wr A5 n5 c5 m ∧ Rd wr (some ⟨sb, 0, none⟩) 16 16 out ∧ Old wn wr ∧ 16 ≤ n5 ∧ n5 % 16 = 0 ∧ n5 ≤ 100000 ∧ m.length ≤ f ∧ cmG E f out m = cmG E (cmM b).length (zs 16) (cmM b)) (fun vb _ _ => sliceLen vb)
      case atStart => exact ⟨A4, n4, c4, cmM b, _, zs 16, (cmM b).length, rfl, rfl, HN.out.1, HN.out.2.2.2.rd, Old.refl _, by have := HN.out.1.1; have := (cmM_len b).1; omega, by have := HN.out.1.1; have := (cmM_len b).2; omega, hn4, Nat.le_refl _, rfl⟩
      case round =>
        obtain ⟨A5, n5, c5, m, sb, out, f, rfl, rfl, hm, ho, hO, h16, hmod, h1e5, hf, hg⟩ := hrel
        have hml := hm.1
        by_cases hlt : 16 < n5
        · have hlti : (n5 : Int) > 16 := by omega
          have hltd : decide ((n5 : Int) > 16) = true := decide_eq_true hlti
          obtain ⟨A6, n6, c6, hn6, hS6, hR6, _⟩ := hm.cut_ex2 (k := 16) (by omega)
          rw [show ((16 : Nat) : Int) = 16 from rfl] at hS6
          obtain ⟨f', rfl⟩ : ∃ f', f = f' + 1 := ⟨f - 1, by omega⟩
          have hstep : cmG E (f' + 1) out m = cmG E f' (E (xorL out m)) (m.drop 16) := by show (if m.length ≤ 16 then _ else _) = _; rw [if_neg (by omega)]
          rw [hstep] at hg
          have HR := Lib.hid (And.intro hm (And.intro ho (And.intro hO (And.intro hR6 (And.intro hg (And.intro hf (And.intro hml (And.intro hmod (And.intro hn6 h16)))))))))
          clear hm ho hO hR6 hg hf hml hstep hmod hn6 h16
          go_wp2_with (first | (go_at_call 49; refine (xored_any _ A5 16 16 n5 c5 out m wr HR.out.2.1 HR.out.1 HR.out.2.2.2.2.2.2.2.2.2 (by omega)).mono ?_; rintro e w5 ⟨rfl, hO5, hB5⟩; have H5 := Lib.hid (And.intro hO5.rd hB5); clear hO5 hB5) | (go_at_call 47; refine (H1.out.1 w5 _ _ _ ((HN.out.2.2.1.trans HR.out.2.2.1).trans H5.out.2) H5.out.1).mono ?_; rintro e w6 ⟨g6, rfl, hR, hB6⟩; have H6 := Lib.hid (And.intro hR hB6); clear hR hB6))
          go_roundw
          case rel => exact ⟨A6, n6, c6, m.drop 16, g6, E (xorL out m), f', rfl, rfl, (HR.out.2.2.2.1.below H5.out.2).below H6.out.2, H6.out.1, (HR.out.2.2.1.trans H5.out.2).trans H6.out.2, by have := HR.out.2.2.2.2.2.2.2.2.1; have := HR.out.2.2.2.2.2.2.2.1; omega, by have := HR.out.2.2.2.2.2.2.2.2.1; have := HR.out.2.2.2.2.2.2.2.1; omega, by have := HR.out.2.2.2.2.2.2.2.2.1; omega, by have := HR.out.2.2.2.2.2.1; rw [List.length_drop]; omega, HR.out.2.2.2.2.1⟩
          case measure => have := HR.out.2.2.2.2.2.2.2.2.1; simp [sliceLen]; omega
        · have hlti : ¬ (n5 : Int) > 16 := by omega
          have hltd : decide ((n5 : Int) > 16) = false := decide_eq_false hlti
          have hc : cmG E f out m = xorL out m := by
            cases f with
            | zero => rfl
            | succ f => show (if m.length ≤ 16 then _ else _) = _; rw [if_pos (by omega)]
          have h5 : 16 ≤ n5 := h16
          have HR := Lib.hid (And.intro hm (And.intro ho (And.intro hO (hc.symm.trans hg))))
          clear hm ho hO hg hf hml hc hmod
          go_wp2_with (first | (go_at_call 47; refine (H1.out.1 w6 _ _ _ (((HN.out.2.2.1.trans HR.out.2.2.1).trans H5.out.2).trans H6.out.2) H6.out.1).mono ?_; rintro e w7 ⟨g7, rfl, hR, hB7⟩; have H7 := Lib.hid (And.intro hR hB7); clear hR hB7) | (go_at_call 49; first | (refine (xored_any (some ⟨wr.heap.size, 0, none⟩) (some ⟨gk, 0, none⟩) 16 16 16 16 _ _ w5 H5.out.1 ((HN.out.2.1.below HR.out.2.2.1).below H5.out.2) (Nat.le_refl _) (by omega)).mono ?_; rintro e w6 ⟨rfl, hO6, hB6⟩; have H6 := Lib.hid (And.intro hO6.rd hB6); clear hO6 hB6) | (refine (xored_any _ A5 16 16 n5 c5 out m wr HR.out.2.1 HR.out.1 h5 (by omega)).mono ?_; rintro e w5 ⟨rfl, hO5, hB5⟩; have H5 := Lib.hid (And.intro hO5.rd hB5); clear hO5 hB5)))
          go_ret
          refine ⟨g7, rfl, ?_, Old.trans (Old.trans (Old.trans (Old.trans (Old.trans H1.out.2.2.1 HN.out.2.2.1) HR.out.2.2.1) H5.out.2) H6.out.2) H7.out.2⟩
          have h9 := H7.out.1
          rw [HR.out.2.2.2] at h9
          rw [← H1.out.2.2.2.2.2]
          exact h9
end Go.Proofs.Ytiocmebcbhbcmaa
