/-
  Modes: all at once: All.
  Modes: CMAC: double.
  Modes, the document's answer: eight, next, double.
  Modes, the document's answer: next, double.
-/
import Derived.Test.YtiocmebcbhbcmaaZzMo17
import Derived.Test.YtiocmebcbhbcmaaZzMr1
namespace Go.Proofs.Ytiocmebcbhbcmaa
set_option maxRecDepth 100000
open Go.RowKit

/-- What All gives. -/
def allF (mode : Int) (enc : Bool) (k p b : List UInt8) : List UInt8 × Int :=
  if mode < 1 ∨ 5 < mode then ([], 112) else if ¬ keyOk k then ([], 98) else if ¬ parOk mode.toNat p then ([], 113)
  else if ((PSof mode.toNat enc k p).fin b).2 = 0 then ((PSof mode.toNat enc k p).front b ++ ((PSof mode.toNat enc k p).fin b).1, 0) else ([], ((PSof mode.toNat enc k p).fin b).2)
def AllRes (w : World) (r : List UInt8 × Int) (e : Ending) (w' : World) : Prop := ∃ A n c, e = .returned (.tuple #[.slice A n c, .int .i64 r.2]) ∧ Own w' w.heap.size (.slice A n c) r.1 ∧ Old w w'
theorem PS.front_nil (s : PS) : s.front [] = [] := by
  unfold PS.front PS.blk
  rw [PS.nb0]
  split
  · rfl
  · split
    · split <;> rfl
    · rfl
theorem Old.turnG {w w1 w2 : World} {G : List Nat} (h : Old w w1) (ht : Turn G w1 w2) (hG : ∀ x ∈ G, w.heap.size ≤ x) : Old w w2 := below_turn h ht hG h.size
set_option maxHeartbeats 2000000 in
theorem modesAll_any (mode : Int) (enc : Bool) (A C B : Option Addr) (mk ck m cm n cn : Nat) (k p b : List UInt8) (w : World) (hk : Rd w A mk ck k) (hp : Rd w C m cm p) (hb : Rd w B n cn b) (hm : m ≤ 100000) (hn : n ≤ 100000) :
    Calls Try.prog 13 #[.int .i64 mode, .bool enc, .slice A mk ck, .slice C m cm, .slice B n cn] w (AllRes w (allF mode enc k p b)) := by
  obtain ⟨RES, hRES⟩ : ∃ r, allF mode enc k p b = r := ⟨_, rfl⟩
  rw [hRES]
  unfold allF at hRES
  by_cases hmode : mode < 1 ∨ 5 < mode
  · rw [if_pos hmode] at hRES
    have hcall := new_mode mode enc A C mk ck m cm w hmode
    have HH := Lib.hid (And.intro hcall hRES)
    clear hcall hRES hmode hk hp hb
    go_enter Try.func13, Try.ntmps13
    go_wp2_with fail
    refine HH.out.1.mono ?_
    rintro e w1 ⟨rfl, rfl⟩
    go_wp2_with fail
    refine bodyPost_ret (results_tmp2 rfl _ _ _) rfl ?_
    rw [← HH.out.2]
    exact ⟨none, 0, 0, rfl, Own.nil _ _, Old.refl _⟩
  · rw [if_neg hmode] at hRES
    obtain ⟨mo, rfl⟩ := Int.eq_ofNat_of_zero_le (show 0 ≤ mode by omega)
    rw [Int.toNat_natCast] at hRES
    have hcall := modesNew_any mo enc A C mk ck m cm k p w hk hp (by omega) (by omega) (by omega)
    by_cases hko : keyOk k
    · rw [if_neg (fun h => h hko)] at hRES
      by_cases hpo : parOk mo p
      · rw [if_neg (fun h => h hpo)] at hRES
        have hpost : ∀ e w', NewPost w mo enc k p e w' → ∃ d, e = .returned (.tuple #[.pointer (some ⟨d, 0, none⟩), .int .i64 0]) ∧ NewRes w (PSof mo enc k p) w' d := fun e w' h => by
          unfold NewPost at h
          rwa [if_neg (fun h => h hko), if_neg (fun h => h hpo)] at h
        obtain ⟨s, hs⟩ : ∃ s, PSof mo enc k p = s := ⟨_, rfl⟩
        rw [hs] at hRES hpost
        have hc0 : s.mode = 4 ∨ s.mode = 5 → s.c0.length = 16 := s.c0_len (by rw [← hs]; exact hpo)
        have hsp : s.p = p := by rw [← hs]; rfl
        have hdl : s.data.length ≤ 100000 := by
          unfold PS.data
          rw [List.length_drop, hsp]
          have := hp.1
          omega
        have hnb := hb.1
        have HH := Lib.hid (And.intro (hcall.mono hpost) (And.intro hRES (And.intro hc0 (And.intro hdl (And.intro hb hnb)))))
        clear hcall hpost hRES hc0 hsp hdl hb hnb hk hp hko hpo hmode hs
        go_enter Try.func13, Try.ntmps13
        go_wp2_with fail
        refine HH.out.1.mono ?_
        rintro e w1 ⟨d, rfl, G, hS, hG, hO⟩
        have H1 := Lib.hid (And.intro hS (And.intro hG hO))
        clear hS hG hO
        go_wp2_with fail
        refine (update_any G d s [] B n cn b w1 H1.out.1 HH.out.2.2.1 (HH.out.2.2.2.2.1.below H1.out.2.2) (fun ad e hm => by have h1 := (H1.out.2.1 _ hm).1; have h2 := HH.out.2.2.2.2.1.lt ad e; omega) (fun x hx => (H1.out.2.1 x hx).2) (by simp; omega)).mono ?_
        rintro e w2 ⟨A2, n2, c2, G2, rfl, u1, u2, u3, u4, u5, u6, u7⟩
        rw [List.nil_append, s.front_nil, List.length_nil, List.drop_zero] at u1
        rw [List.nil_append] at u2
        have hO2 : Old w w2 := H1.out.2.2.turnG u3 (fun x hx => (H1.out.2.1 x hx).1)
        have hG2 : ∀ x ∈ G2, w.heap.size ≤ x := fun x hx => by
          rcases u4 x hx with h | h
          · exact (H1.out.2.1 x h).1
          · exact Nat.le_trans H1.out.2.2.size h
        have H2 := Lib.hid (And.intro u1 (And.intro u2 (And.intro hO2 (And.intro hG2 (And.intro u6 (And.intro u7 u3.size))))))
        clear u1 u2 u3 u4 u5 u6 u7 hO2 hG2
        go_wp2_with fail
        refine (final_any G2 d s b w2 H2.out.2.1 HH.out.2.2.1 HH.out.2.2.2.1 (by have := HH.out.2.2.2.2.2; omega)).mono ?_
        rintro e w3 ⟨A3, n3, c3, rfl, v1, v2, v3, v4⟩
        obtain ⟨rv, hrv⟩ : ∃ rv, (s.fin b).2 = rv := ⟨_, rfl⟩
        have hR := HH.out.2.1
        rw [hrv] at hR ⊢
        have H3 := Lib.hid (And.intro v1 (And.intro (H2.out.2.2.1.turnG v3 H2.out.2.2.2.1) (And.intro v4 (H2.out.1.turn v3 (fun g hg => H2.out.2.2.2.2.1 g hg)))))
        have hs21 : w.heap.size ≤ w1.heap.size := H1.out.2.2.size
        have hs31 : w1.heap.size ≤ w3.heap.size := Nat.le_trans H2.out.2.2.2.2.2.2 v3.size
        clear v1 v2 v3 v4
        by_cases hz : rv = 0
        · subst hz
          rw [if_pos rfl] at hR
          have HR := Lib.hid hR
          clear hR hrv
          go_wp2_with (at_builtin; refine wp_app2 (.tmp 38) (.tmp 39) w1.heap.size (.slice A2 n2 c2) _ H3.out.2.2.2 hs31 A3 n3 c3 _ H3.out.1 (by have h1 := H2.out.1.len; have h2 := H3.out.1.1; have h3 := H2.out.2.2.2.2.2.1; have h4 := H3.out.2.2.1; have h5 := HH.out.2.2.2.2.2; simp only [List.length_nil] at h3; omega) rfl rfl rfl rfl ?_; intro A5 n5 c5 w5 hn5 hG5; have H5 := Lib.hid hG5; clear hG5)
          refine bodyPost_ret (results_tmp2 rfl _ _ _) rfl ?_
          rw [← HR.out]
          exact ⟨A5, n5, c5, rfl, H5.out.own.mono hs21, H3.out.2.1.trans_below (H5.out.below.mono hs21)⟩
        · have hzb : (rv != 0) = true := by simp; exact hz
          rw [if_neg hz] at hR
          have HR := Lib.hid hR
          clear hR hrv
          go_wp2_with fail
          refine bodyPost_ret (results_tmp2 rfl _ _ _) rfl ?_
          rw [← HR.out]
          exact ⟨none, 0, 0, rfl, Own.nil _ _, H3.out.2.1⟩
      · rw [if_pos hpo] at hRES
        have hpost : ∀ e w', NewPost w mo enc k p e w' → e = .returned (.tuple #[.pointer none, .int .i64 113]) ∧ Old w w' := fun e w' h => by
          unfold NewPost at h
          rwa [if_neg (fun h => h hko), if_pos hpo] at h
        have HH := Lib.hid (And.intro (hcall.mono hpost) hRES)
        clear hcall hpost hRES hb hk hp hko hpo hmode
        go_enter Try.func13, Try.ntmps13
        go_wp2_with fail
        refine HH.out.1.mono ?_
        rintro e w1 ⟨rfl, hO⟩
        have HO := Lib.hid hO
        clear hO
        go_wp2_with fail
        refine bodyPost_ret (results_tmp2 rfl _ _ _) rfl ?_
        rw [← HH.out.2]
        exact ⟨none, 0, 0, rfl, Own.nil _ _, HO.out⟩
    · rw [if_pos hko] at hRES
      have hpost : ∀ e w', NewPost w mo enc k p e w' → e = .returned (.tuple #[.pointer none, .int .i64 98]) ∧ Old w w' := fun e w' h => by
        unfold NewPost at h
        rwa [if_pos hko] at h
      have HH := Lib.hid (And.intro (hcall.mono hpost) hRES)
      clear hcall hpost hRES hb hk hp hko hmode
      go_enter Try.func13, Try.ntmps13
      go_wp2_with fail
      refine HH.out.1.mono ?_
      rintro e w1 ⟨rfl, hO⟩
      have HO := Lib.hid hO
      clear hO
      go_wp2_with fail
      refine bodyPost_ret (results_tmp2 rfl _ _ _) rfl ?_
      rw [← HH.out.2]
      exact ⟨none, 0, 0, rfl, Own.nil _ _, HO.out⟩
end Go.Proofs.Ytiocmebcbhbcmaa
namespace Go.Proofs.Ytiocmebcbhbcmaa
set_option maxRecDepth 100000
open Go.RowKit

def dblB (b : List UInt8) (i : Nat) : UInt8 := if i < 15 then (b.getD i 0 <<< 1) ||| (b.getD (i + 1) 0 >>> 7) else b.getD i 0 <<< 1
def dblM (b : List UInt8) : List UInt8 := (List.range 16).map (dblB b)
def dblL (b : List UInt8) : List UInt8 := (dblM b).set 15 (dblB b 15 ^^^ ((b.getD 0 0 >>> 7) * 135))
theorem dblM_len (b : List UInt8) : (dblM b).length = 16 := by simp [dblM]
theorem dblL_len (b : List UInt8) : (dblL b).length = 16 := by simp [dblL, dblM]
theorem dblM_at (b : List UInt8) (i : Nat) (h : i < 16) : (dblM b)[i]? = some (dblB b i) := by unfold dblM; rw [List.getElem?_map, List.getElem?_range h]; rfl
theorem getD_some {b : List UInt8} {i : Nat} {x : UInt8} (h : b[i]? = some x) : b.getD i 0 = x := by rw [List.getD_eq_getElem?_getD, h]; rfl
set_option maxHeartbeats 2000000 in
theorem double_any (A : Option Addr) (c : Nat) (b : List UInt8) (w : World) (h : Rd w A 16 c b) :
    Calls Try.prog 46 #[.slice A 16 c] w fun e w' => e = .returned (.slice (some ⟨w.heap.size, 0, none⟩) 16 16) ∧ Own w' w.heap.size (.slice (some ⟨w.heap.size, 0, none⟩) 16 16) (dblL b) ∧ Old w w' := by
  have hbl : b.length = 16 := h.1.symm
  have hc16 := h.2.1
  obtain ⟨bb, ob, rfl, hat⟩ := h.addr (by decide)
  obtain ⟨X, hX⟩ : ∃ X, w.heap.size = X := ⟨_, rfl⟩
  have hmk := Try.prog_make 16 (by omega) w
  obtain ⟨w1, hw1⟩ : ∃ w1, w.alloc (.cells (madeCells #[.int .u8 0] 16) 5) = w1 := ⟨_, rfl⟩
  have hO1 : Own w1 X (.slice (some ⟨X, 0, none⟩) 16 16) (zs 16) := by rw [← hw1, ← hX]; exact Own.made w 16 (by unfold maxLen; omega)
  have hB1 : Old w w1 := by rw [← hw1]; exact (Old.refl _).alloc _
  rw [hw1, hX, show ((16 : Nat) : Int) = 16 from rfl] at hmk
  have hbX : bb < X := by rw [← hX]; exact hat.1
  have HH := Lib.hid (And.intro hat (And.intro hbl (And.intro hO1 hB1)))
  have HX := Lib.hid hX
  clear h hat hbl hO1 hB1 hw1
  rw [hX]
  clear hX
  have hld : ∀ (wr : World), Old w wr → ∀ i x, b[i]? = some x → wr.cell? ⟨bb, ob + i, none⟩ = some (B x) := fun wr hO i x hx => cellOld' hO (HH.out.1.2 i x hx)
  have HL := Lib.hid hld
  clear hld
  go_enter Try.func46, Try.ntmps46
  go_wp2_with fail
  clear hmk
  go_loopw [8] (fun iv wr => ∃ i : Nat, i ≤ 16 ∧ iv = .int .i64 (i : Int) ∧ Own wr X (.slice (some ⟨X, 0, none⟩) 16 16) (mid i (dblM b) (zs 16)) ∧ Old w wr) (fun iv _ => 16 - (intOf iv).toNat)
  case atStart => exact ⟨0, by omega, rfl, by rw [mid_zero]; exact HH.out.2.2.1, HH.out.2.2.2⟩
  case round =>
    obtain ⟨i, hi, rfl, hO, hB⟩ := hrel
    by_cases hlt : i < 16
    · have hq : (i : Int) < 16 := by omega
      obtain ⟨x, hx⟩ : ∃ x, b[i]? = some x := ⟨_, List.getElem?_eq_getElem (by rw [HH.out.2.1]; exact hlt)⟩
      obtain ⟨z, hz⟩ : ∃ z, (mid i (dblM b) (zs 16))[i]? = some z := ⟨_, List.getElem?_eq_getElem (by rw [← hO.len]; exact hlt)⟩
      have y0 := HL.out wr hB i x hx
      have y2 := hO.cell i z hz
      have y3 := hO.frozen i
      have hO2 := hO.set_ i (x <<< 1) hlt
      have hT2 : Turn [X] wr (wr.setCell ⟨X, i, none⟩ (B (x <<< 1))) := (Turn.refl _ _).setCell (p := ⟨X, i, none⟩) (.inl (by simp)) _
      have hB2 : Old w (wr.setCell ⟨X, i, none⟩ (B (x <<< 1))) := below_turn hB hT2 (by simp; rw [HX.out]; exact Nat.le_refl _) hB.size
      have hms := fun y (hy : (dblM b)[i]? = some y) => mid_set i (dblM b) (zs 16) y hy (by rw [zs_len]; exact hlt)
      obtain ⟨j, hj⟩ : ∃ j, i + 1 = j := ⟨_, rfl⟩
      have hji : (i : Int) + 1 = (j : Int) := by omega
      have hwi : IntKind.i64.wrap (j : Int) = (j : Int) := IntWalk.i64_in _ (by omega)
      by_cases h15 : i < 15
      · have h15j : (j : Int) < 16 := by omega
        have h15d : decide ((j : Int) < 16) = true := decide_eq_true h15j
        obtain ⟨x2, hx2⟩ : ∃ x2, b[j]? = some x2 := ⟨_, List.getElem?_eq_getElem (by rw [HH.out.2.1]; omega)⟩
        have y4 := HL.out _ hB2 j x2 hx2
        have hd : dblB b i = (x <<< 1) ||| (x2 >>> 7) := by unfold dblB; rw [if_pos h15, getD_some hx, hj, getD_some hx2]
        have hO3 := hO2.set_ i ((x <<< 1) ||| (x2 >>> 7)) hlt
        have y5 := hO2.cell i (x <<< 1) (by rw [List.getElem?_set_self (by rw [← hO.len]; exact hlt)])
        have y6 := hO2.frozen i
        rw [List.set_set, hms _ (by rw [dblM_at b i hlt, hd])] at hO3
        obtain ⟨wB, hwB⟩ : ∃ wB, wr.setCell ⟨X, i, none⟩ (B (x <<< 1)) = wB := ⟨_, rfl⟩
        rw [hwB] at hO2 hB2 y4 y5 y6 hO3
        have hT3 : Turn [X] wB (wB.setCell ⟨X, i, none⟩ (B ((x <<< 1) ||| (x2 >>> 7)))).drew := ((Turn.refl _ _).setCell (p := ⟨X, i, none⟩) (.inl (by simp)) _).drew
        have hB3 : Old w (wB.setCell ⟨X, i, none⟩ (B ((x <<< 1) ||| (x2 >>> 7)))).drew := below_turn hB2 hT3 (by simp; rw [HX.out]; exact Nat.le_refl _) hB2.size
        have HS := Lib.hid (And.intro hO3 hB3)
        have HW := Lib.hid (And.intro hwB hj)
        clear hO hB hx hz hO2 hT2 hB2 hms hd hO3 hx2 hwB h15 hT3 hB3 hj
        go_upto_region 7 with fail
        rw [HW.out.1]
        go_still_tail 12, (by kernel_rfl)
        go_wp2_with fail
        go_roundw
        case rel => exact ⟨j, by omega, rfl, by rw [← HW.out.2]; exact HS.out.1, HS.out.2⟩
        case measure => have := HW.out.2; simp [intOf]; omega
      · have h15j : ¬ (j : Int) < 16 := by omega
        have h15d : decide ((j : Int) < 16) = false := decide_eq_false h15j
        have hd : dblB b i = x <<< 1 := by unfold dblB; rw [if_neg h15, getD_some hx]
        rw [hms _ (by rw [dblM_at b i hlt, hd])] at hO2
        have HS := Lib.hid (And.intro hO2 hB2)
        have HW := Lib.hid hj
        clear hO hB hx hz hO2 hT2 hB2 hms hd h15 hj
        go_wp2_with fail
        go_roundw
        case rel => exact ⟨j, by omega, rfl, by rw [← HW.out]; exact HS.out.1, HS.out.2⟩
        case measure => have := HW.out; simp [intOf]; omega
    · obtain rfl : i = 16 := by omega
      have hq : ¬ ((16 : Nat) : Int) < 16 := by omega
      rw [mid_all _ _ 16 (dblM_len b) (zs_len 16)] at hO
      obtain ⟨x0, hx0⟩ : ∃ x, b[0]? = some x := ⟨_, List.getElem?_eq_getElem (by rw [HH.out.2.1]; omega)⟩
      have y0 := HL.out wr hB 0 x0 hx0
      rw [Nat.add_zero] at y0
      have y2 := hO.cell 15 _ (dblM_at b 15 (by omega))
      have y3 := hO.frozen 15
      have hd : dblL b = (dblM b).set 15 (dblB b 15 ^^^ ((x0 >>> 7) * 135)) := by unfold dblL; rw [getD_some hx0]
      obtain ⟨z, hz⟩ : ∃ z, dblB b 15 = z := ⟨_, rfl⟩
      rw [hz] at y2 hd
      have hO2 := hO.set_ 15 (z ^^^ ((x0 >>> 7) * 135)) (by omega)
      rw [← hd] at hO2
      have hT3 : Turn [X] wr (wr.setCell ⟨X, 15, none⟩ (B (z ^^^ ((x0 >>> 7) * 135)))).drew := ((Turn.refl _ _).setCell (p := ⟨X, 15, none⟩) (.inl (by simp)) _).drew
      have hB3 : Old w (wr.setCell ⟨X, 15, none⟩ (B (z ^^^ ((x0 >>> 7) * 135)))).drew := below_turn hB hT3 (by simp; rw [HX.out]; exact Nat.le_refl _) hB.size
      have HS := Lib.hid (And.intro hO2 hB3)
      clear hO hB hx0 hd hz hO2 hT3 hB3
      go_upto_region 9 with fail
      go_still_tail 10, (by kernel_rfl)
      go_wp2_with fail
      go_ret
      exact ⟨rfl, HS.out.1, HS.out.2⟩
end Go.Proofs.Ytiocmebcbhbcmaa
namespace Go.Proofs.Ytiocmebcbhbcmaa
set_option maxRecDepth 100000
open Go.RowKit

/-- Laid from behind. -/
def dmid (k : Nat) (o l : List UInt8) : List UInt8 := l.take k ++ o.drop k
theorem dmid_all (o l : List UInt8) (n : Nat) (ho : o.length = n) (hl : l.length = n) : dmid n o l = l := by
  unfold dmid
  rw [← hl, List.take_length, List.drop_eq_nil_of_le (by omega), List.append_nil]
theorem dmid_zero (o l : List UInt8) : dmid 0 o l = o := by simp [dmid]
theorem dmid_len (k : Nat) (o l : List UInt8) (n : Nat) (ho : o.length = n) (hl : l.length = n) (hk : k ≤ n) : (dmid k o l).length = n := by
  unfold dmid
  rw [List.length_append, List.length_take, List.length_drop]
  omega
theorem dmid_set (k : Nat) (o l : List UInt8) (x : UInt8) (hx : o[k]? = some x) (hl : k < l.length) : (dmid (k + 1) o l).set k x = dmid k o l := by
  unfold dmid
  have hko : k < o.length := by
    rcases Nat.lt_or_ge k o.length with h | h
    · exact h
    · rw [List.getElem?_eq_none h] at hx; cases hx
  have e1 : l.take (k + 1) = l.take k ++ [l[k]] := by rw [List.take_add_one, List.getElem?_eq_getElem hl]; rfl
  have e2 : o.drop k = x :: o.drop (k + 1) := by
    rw [List.drop_eq_getElem_cons hko]
    have := hx
    rw [List.getElem?_eq_getElem hko] at this
    cases this
    rfl
  have hlk : (l.take k).length = k := by rw [List.length_take]; omega
  rw [e1, e2, List.append_assoc]
  rw [List.set_append_right _ _ (by omega), hlk, Nat.sub_self]
  rfl
theorem bytes64_at (n i : Nat) (h : i < 8) (hn : n < 18446744073709551616) : (bytes64 (UInt64.ofNat n))[i]? = some (UInt8.ofNat (n / 256 ^ (7 - i) % 256)) := by
  have ht : ∀ k : Nat, k ≤ 7 → (UInt64.ofNat n >>> UInt64.ofNat (8 * k)).toUInt8 = UInt8.ofNat (n / 256 ^ k % 256) := fun k hk => by
    apply UInt8.toNat_inj.1
    rw [UInt64.toNat_toUInt8, UInt64.toNat_shiftRight, UInt8.toNat_ofNat', UInt64.toNat_ofNat', UInt64.toNat_ofNat', Nat.shiftRight_eq_div_pow, show n % 2 ^ 64 = n by omega, show 8 * k % 2 ^ 64 % 64 = 8 * k by omega,
      show (2 : Nat) ^ (8 * k) = 256 ^ k by rw [Nat.pow_mul]]
    simp
  have h0 := ht 0 (by omega)
  have h1 := ht 1 (by omega)
  have h2 := ht 2 (by omega)
  have h3 := ht 3 (by omega)
  have h4 := ht 4 (by omega)
  have h5 := ht 5 (by omega)
  have h6 := ht 6 (by omega)
  have h7 := ht 7 (by omega)
  have hz : (UInt64.ofNat n).toUInt8 = UInt8.ofNat (n / 256 ^ 0 % 256) := by
    apply UInt8.toNat_inj.1
    rw [UInt64.toNat_toUInt8, UInt64.toNat_ofNat', UInt8.toNat_ofNat', Nat.mod_eq_of_lt (a := n) (by omega)]
    simp
  have : i = 0 ∨ i = 1 ∨ i = 2 ∨ i = 3 ∨ i = 4 ∨ i = 5 ∨ i = 6 ∨ i = 7 := by omega
  rcases this with rfl | rfl | rfl | rfl | rfl | rfl | rfl | rfl
  · exact congrArg some h7
  · exact congrArg some h6
  · exact congrArg some h5
  · exact congrArg some h4
  · exact congrArg some h3
  · exact congrArg some h2
  · exact congrArg some h1
  · exact congrArg some hz
set_option maxHeartbeats 1000000 in
theorem eight_any (n : Nat) (w : World) (hn : n ≤ 1000000000000) :
    Calls Try.prog 56 #[.int .i64 (n : Int)] w fun e w' => e = .returned (.slice (some ⟨w.heap.size, 0, none⟩) 8 8) ∧ Own w' w.heap.size (.slice (some ⟨w.heap.size, 0, none⟩) 8 8) (bytes64 (UInt64.ofNat n)) ∧ Old w w' := by
  obtain ⟨X, hX⟩ : ∃ X, w.heap.size = X := ⟨_, rfl⟩
  have hmk := Try.prog_make 8 (by omega) w
  obtain ⟨w1, hw1⟩ : ∃ w1, w.alloc (.cells (madeCells #[.int .u8 0] 8) 5) = w1 := ⟨_, rfl⟩
  have hO1 : Own w1 X (.slice (some ⟨X, 0, none⟩) 8 8) (zs 8) := by rw [← hw1, ← hX]; exact Own.made w 8 (by unfold maxLen; omega)
  have hB1 : Old w w1 := by rw [← hw1]; exact (Old.refl _).alloc _
  rw [hw1, hX, show ((8 : Nat) : Int) = 8 from rfl] at hmk
  have HH := Lib.hid (And.intro hO1 hB1)
  have HX := Lib.hid hX
  clear hO1 hB1 hw1
  rw [hX]
  clear hX
  obtain ⟨L, hL⟩ : ∃ L, bytes64 (UInt64.ofNat n) = L := ⟨_, rfl⟩
  have hat : ∀ i, i < 8 → L[i]? = some (UInt8.ofNat (n / 256 ^ (7 - i) % 256)) := fun i hi => by rw [← hL]; exact bytes64_at n i hi (by omega)
  have hLl : L.length = 8 := by rw [← hL]; rfl
  rw [hL]
  have HL := Lib.hid (And.intro hat hLl)
  clear hat hLl hL
  go_enter Try.func56, Try.ntmps56
  go_wp2_with fail
  clear hmk
  go_loopw [0, 4] (fun vn vi wr => ∃ k m : Nat, vn = .int .i64 (m : Int) ∧ vi = .int .i64 ((k : Int) - 1) ∧ k ≤ 8 ∧ m = n / 256 ^ (8 - k) ∧ Own wr X (.slice (some ⟨X, 0, none⟩) 8 8) (dmid k L (zs 8)) ∧ Old w wr) (fun _ vi _ => (intOf vi + 1).toNat)
  case atStart => exact ⟨8, n, rfl, rfl, by omega, by simp, by rw [dmid_all _ _ 8 HL.out.2 (zs_len 8)]; exact HH.out.1, HH.out.2⟩
  case round =>
    obtain ⟨k, m, rfl, rfl, hk, hm, hO, hB⟩ := hrel
    rcases k with _ | i
    · have h0 : ¬ (((0 : Nat) : Int) - 1 ≥ 0) := by omega
      rw [dmid_zero] at hO
      have HX2 := Lib.hid (And.intro hO hB)
      clear hO hB hm
      go_wp2_with fail
      go_ret
      exact ⟨rfl, HX2.out.1, HX2.out.2⟩
    · have e1 : (((i + 1 : Nat) : Int) - 1) = (i : Int) := by omega
      have hi : i < 8 := by omega
      have hi0 : (i : Int) ≥ 0 := by omega
      have hi8 : (i : Int) < 8 := by omega
      have hmn : m ≤ n := by rw [hm]; exact Nat.div_le_self _ _
      obtain ⟨q, hq⟩ : ∃ q, m % 256 = q := ⟨_, rfl⟩
      have hr1 : (m : Int) % 256 = (q : Int) := by omega
      have hr2 : Int.tmod (m : Int) 256 = (q : Int) := by rw [Int.tmod_eq_emod_of_nonneg (by omega)]; exact hr1
      have hcv := fun W : World => conv_i8 q (by omega) W
      obtain ⟨m2, hm2⟩ : ∃ m2, m / 256 = m2 := ⟨_, rfl⟩
      have hd1 : (m : Int) / 256 = (m2 : Int) := by omega
      have hd2 : Int.tdiv (m : Int) 256 = (m2 : Int) := by rw [Int.tdiv_eq_ediv_of_nonneg (by omega)]; exact hd1
      have hwi : IntKind.i64.wrap ((i : Int) - 1) = (i : Int) - 1 := IntWalk.i64_in _ (by omega)
      have hx : L[i]? = some (UInt8.ofNat q) := by
        rw [HL.out.1 i hi, ← hq, hm, show 8 - (i + 1) = 7 - i by omega]
      obtain ⟨z, hz⟩ : ∃ z, (dmid (i + 1) L (zs 8))[i]? = some z := ⟨_, List.getElem?_eq_getElem (by rw [dmid_len _ _ _ 8 HL.out.2 (zs_len 8) (by omega)]; exact hi)⟩
      have y2 := hO.cell i z hz
      have y3 := hO.frozen i
      have h1 := hO.set_ i (UInt8.ofNat q) hi
      rw [dmid_set i L (zs 8) _ hx (by rw [zs_len]; exact hi)] at h1
      have hT : Turn [X] wr (wr.setCell ⟨X, i, none⟩ (B (UInt8.ofNat q))) := (Turn.refl _ _).setCell (p := ⟨X, i, none⟩) (.inl (by simp)) _
      have hB2 : Old w (wr.setCell ⟨X, i, none⟩ (B (UInt8.ofNat q))) := below_turn hB hT (by simp; rw [HX.out]; exact Nat.le_refl _) hB.size
      have hm3 : m2 = n / 256 ^ (8 - i) := by rw [← hm2, hm, Nat.div_div_eq_div_mul, ← Nat.pow_succ, show (8 - (i + 1)).succ = 8 - i by omega]
      have HS := Lib.hid (And.intro h1 (And.intro hB2 hm3))
      rw [e1]
      clear hO hB hT hz hx h1 hB2 hm3 hm hk hq hm2 e1 hi
      go_wp2_with fail
      go_roundw
      case rel => exact ⟨i, m2, rfl, rfl, by omega, HS.out.2.2, HS.out.1, HS.out.2.1⟩
      case measure => simp [intOf]
end Go.Proofs.Ytiocmebcbhbcmaa
namespace Go.Proofs.Ytiocmebcbhbcmaa
set_option maxRecDepth 100000
open Go.RowKit

def bitB (r : Nat) : UInt8 := UInt8.ofNat (2 ^ r)
theorem bit_lit (r : Nat) (h : r < 8) : Value.int .u8 (((2 : Int) ^ r) % 256) = B (bitB r) := by
  have : r = 0 ∨ r = 1 ∨ r = 2 ∨ r = 3 ∨ r = 4 ∨ r = 5 ∨ r = 6 ∨ r = 7 := by omega
  rcases this with rfl | rfl | rfl | rfl | rfl | rfl | rfl | rfl <;> rfl
def nxG : Nat → Nat → List UInt8 → List UInt8
  | 0, _, l => l
  | f + 1, i, l => if isN ((l.getD (15 - i / 8) 0 ^^^ bitB (i % 8)) &&& bitB (i % 8)) 0 = true then nxG f (i + 1) (l.set (15 - i / 8) (l.getD (15 - i / 8) 0 ^^^ bitB (i % 8)))
    else l.set (15 - i / 8) (l.getD (15 - i / 8) 0 ^^^ bitB (i % 8))
def byG : Nat → Nat → UInt8 → UInt8 × Bool
  | 0, _, x => (x, false)
  | f + 1, j, x => if isN ((x ^^^ bitB j) &&& bitB j) 0 = true then byG f (j + 1) (x ^^^ bitB j) else (x ^^^ bitB j, true)
theorem byG_all (n : Nat) (hn : n ≤ 8) (x : UInt8) : byG n 0 x = (nxB n x, !goB n x) := by
  have h : ∀ n : Fin 9, ∀ i : Fin 256, byG n.val 0 (UInt8.ofNat i.val) = (nxB n.val (UInt8.ofNat i.val), !goB n.val (UInt8.ofNat i.val)) := by decide +kernel
  have := h ⟨n, by omega⟩ ⟨x.toNat, x.toNat_lt⟩
  simpa using this
theorem set_getD (l : List UInt8) (k : Nat) : l.set k (l.getD k 0) = l := by
  by_cases h : k < l.length
  · rw [List.getD_eq_getElem?_getD, List.getElem?_eq_getElem h]
    simp
  · rw [List.set_eq_of_length_le (by omega)]
theorem byG_step (f j : Nat) (x : UInt8) : byG (f + 1) j x = if isN ((x ^^^ bitB j) &&& bitB j) 0 = true then byG f (j + 1) (x ^^^ bitB j) else (x ^^^ bitB j, true) := rfl
theorem nxG_succ (f m j : Nat) (l : List UInt8) (hj : j < 8) : nxG (f + 1) (8 * m + j) l = if isN ((l.getD (15 - m) 0 ^^^ bitB j) &&& bitB j) 0 = true then nxG f (8 * m + (j + 1)) (l.set (15 - m) (l.getD (15 - m) 0 ^^^ bitB j))
    else l.set (15 - m) (l.getD (15 - m) 0 ^^^ bitB j) := by
  have e1 : (8 * m + j) / 8 = m := by omega
  have e2 : (8 * m + j) % 8 = j := by omega
  show (if isN ((l.getD (15 - (8 * m + j) / 8) 0 ^^^ bitB ((8 * m + j) % 8)) &&& bitB ((8 * m + j) % 8)) 0 = true then _ else _) = _
  rw [e1, e2]
  rfl
theorem nxG_byte (m f2 : Nat) (hm : m < 16) : ∀ (f1 j : Nat) (l : List UInt8) (y : UInt8) (st : Bool), j + f1 ≤ 8 → l.length = 16 → byG f1 j (l.getD (15 - m) 0) = (y, st) →
    (st = true → nxG (f1 + f2) (8 * m + j) l = l.set (15 - m) y) ∧ (st = false → nxG (f1 + f2) (8 * m + j) l = nxG f2 (8 * m + j + f1) (l.set (15 - m) y))
  | 0, j, l, y, st, _, _, hb => by
    simp only [byG, Prod.mk.injEq] at hb
    obtain ⟨rfl, rfl⟩ := hb
    refine ⟨fun h => (by cases h), fun _ => ?_⟩
    rw [set_getD, Nat.zero_add]
    rfl
  | f1 + 1, j, l, y, st, hj, hl, hb => by
    rw [byG_step] at hb
    rw [show f1 + 1 + f2 = (f1 + f2) + 1 by omega, nxG_succ _ _ _ _ (by omega)]
    by_cases h : isN ((l.getD (15 - m) 0 ^^^ bitB j) &&& bitB j) 0 = true
    · rw [if_pos h] at hb
      rw [if_pos h]
      have eg : (l.set (15 - m) (l.getD (15 - m) 0 ^^^ bitB j)).getD (15 - m) 0 = l.getD (15 - m) 0 ^^^ bitB j := by
        rw [List.getD_eq_getElem?_getD, List.getElem?_set_self (by omega)]
        rfl
      have ih := nxG_byte m f2 hm f1 (j + 1) (l.set (15 - m) (l.getD (15 - m) 0 ^^^ bitB j)) y st (by omega) (by simp [hl]) (by rw [eg]; exact hb)
      rw [List.set_set, show 8 * m + (j + 1) + f1 = 8 * m + j + (f1 + 1) by omega] at ih
      exact ih
    · rw [if_neg h] at hb
      rw [if_neg h]
      simp only [Prod.mk.injEq] at hb
      obtain ⟨rfl, rfl⟩ := hb
      exact ⟨fun _ => rfl, fun h => (by cases h)⟩
theorem nxG_step : ∀ (k m left : Nat) (l : List UInt8), k + m = 16 → l.length = 16 → left ≤ 8 * k → nxG left (8 * m) l = stepF k left l
  | 0, m, left, l, _, _, h => by
    obtain rfl : left = 0 := by omega
    rfl
  | k + 1, m, left, l, hk, hl, h => by
    by_cases h0 : left = 0
    · subst h0; simp [nxG, stepF]
    · obtain ⟨n, hn⟩ : ∃ n, min left 8 = n := ⟨_, rfl⟩
      have hb := nxG_byte m (left - n) (by omega) n 0 l (nxB n (l.getD (15 - m) 0)) (!goB n (l.getD (15 - m) 0)) (by omega) hl (byG_all n (by omega) _)
      rw [show n + (left - n) = left by omega, Nat.add_zero, show 15 - m = k by omega] at hb
      show _ = (if left = 0 then l else if goB (min left 8) (l.getD k 0) = true then stepF k (left - min left 8) (l.set k (nxB (min left 8) (l.getD k 0))) else l.set k (nxB (min left 8) (l.getD k 0)))
      rw [if_neg h0, hn]
      by_cases hg : goB n (l.getD k 0) = true
      · rw [hb.2 (by rw [hg]; rfl), if_pos hg]
        by_cases h8 : 8 ≤ left
        · obtain rfl : n = 8 := by omega
          rw [show 8 * m + 8 = 8 * (m + 1) by omega]
          exact nxG_step k (m + 1) (left - 8) _ (by omega) (by simp [hl]) (by omega)
        · rw [show left - n = 0 by omega]
          cases k <;> simp [nxG, stepF]
      · rw [hb.1 (by rw [Bool.eq_false_iff.2 hg]; rfl), if_neg hg]
theorem nxG_L (wd : Nat) (h : wd ≤ 128) (l : List UInt8) (hl : l.length = 16) : nxG wd 0 l = stepL wd l := nxG_step 16 0 wd l rfl hl h
set_option maxHeartbeats 1000000 in
theorem rnext_any (A : Option Addr) (c wd : Nat) (l : List UInt8) (w : World) (h : Rd w A 16 c l) (hw : wd ≤ 128) :
    Calls Try.prog 61 #[.slice A 16 c, .int .i64 (wd : Int)] w fun e w' => ∃ g cc, e = .returned (.slice (some ⟨g, 0, none⟩) 16 cc) ∧ Own w' w.heap.size (.slice (some ⟨g, 0, none⟩) 16 cc) (stepL wd l) ∧ Old w w' := by
  have hl := h.1.symm
  obtain ⟨TG, hTG⟩ : ∃ T, stepL wd l = T := ⟨_, rfl⟩
  rw [hTG]
  have hst : nxG wd 0 l = TG := by rw [← hTG]; exact nxG_L wd hw l hl
  have HH := Lib.hid (And.intro h (And.intro hl hst))
  clear h hl hst hTG
  go_enter Try.func61, Try.ntmps61
  go_upto_region 2 with (at_builtin; refine wp_app2 (.const (.slice none 0 0)) (.tmp 9) w.heap.size (.slice none 0 0) [] (Own.nil _ _) (Nat.le_refl _) A 16 c l HH.out.1 (by have := HH.out.2.1; simp; omega) rfl rfl rfl rfl ?_; intro A2 n2 c2 w2 hn2 hG; have H2 := Lib.hid hG; clear hG)
  have hn2 : n2 = 16 := by have h1 := H2.out.len; rw [List.nil_append, HH.out.2.1] at h1; exact h1
  subst hn2
  obtain ⟨g, c3, e⟩ := H2.out.own.form (by intro e; injection e with _ e2 _; omega)
  injection e with e1 e2 e3
  subst e1 e3
  clear e2
  have hown : Own w2 w.heap.size (.slice (some ⟨g, 0, none⟩) 16 c2) l := by have := H2.out.own; rwa [List.nil_append] at this
  have hge : w.heap.size ≤ g := hown.addr_ge _ rfl
  have HO := Lib.hid (And.intro hown (And.intro hge H2.out.below))
  clear hown hge
  go_wp2_with fail
  go_loopw [6] (fun vi wr => ∃ (i f : Nat) (r : List UInt8), vi = .int .i64 (i : Int) ∧ i + f = wd ∧ r.length = 16 ∧ nxG f i r = TG ∧ Own wr w.heap.size (.slice (some ⟨g, 0, none⟩) 16 c2) r ∧ Old w wr) (fun vi _ => wd - (intOf vi).toNat)
  case atStart => exact ⟨0, wd, l, rfl, by omega, HH.out.2.1, HH.out.2.2, HO.out.1, HO.out.2.2⟩
  case round =>
    obtain ⟨i, f, r, rfl, hif, hr, hg, hO, hB⟩ := hrel
    by_cases hlt : i < wd
    · have hlti : (i : Int) < wd := by omega
      have hltd : decide ((i : Int) < (wd : Int)) = true := decide_eq_true hlti
      obtain ⟨f', rfl⟩ : ∃ f', f = f' + 1 := ⟨f - 1, by omega⟩
      obtain ⟨q, hq⟩ : ∃ q, i / 8 = q := ⟨_, rfl⟩
      have hq1 : (i : Int) / 8 = (q : Int) := by omega
      have hq2 : Int.tdiv (i : Int) 8 = (q : Int) := by rw [Int.tdiv_eq_ediv_of_nonneg (by omega)]; exact hq1
      obtain ⟨k, hk⟩ : ∃ k, 15 - q = k := ⟨_, rfl⟩
      have hq15 : q ≤ 15 := by omega
      have hk1 : IntKind.i64.wrap (15 - (q : Int)) = (k : Int) := by rw [IntWalk.i64_in _ (by omega)]; omega
      have hk16 : (k : Int) < 16 := by omega
      obtain ⟨j, hj⟩ : ∃ j, i % 8 = j := ⟨_, rfl⟩
      have hj1 : (i : Int) % 8 = (j : Int) := by omega
      have hj2 : Int.tmod (i : Int) 8 = (j : Int) := by rw [Int.tmod_eq_emod_of_nonneg (by omega)]; exact hj1
      have hj8 : j < 8 := by omega
      have hbit := bit_lit j hj8
      have hwi : IntKind.i64.wrap ((i : Int) + 1) = ((i + 1 : Nat) : Int) := by rw [IntWalk.i64_in _ (by omega)]; omega
      obtain ⟨x, hx⟩ : ∃ x, r[k]? = some x := ⟨_, List.getElem?_eq_getElem (by omega)⟩
      have hxd : r.getD k 0 = x := getD_some hx
      simp only [nxG] at hg
      rw [hq, hk, hj, hxd] at hg
      have y0 := hO.cell k x hx
      have f0 := hO.frozen k
      obtain ⟨y, hy⟩ : ∃ y, x ^^^ bitB j = y := ⟨_, rfl⟩
      rw [hy] at hg
      have h1 := hO.set_ k y (by omega)
      have hT : Turn [g] wr (wr.setCell ⟨g, k, none⟩ (B y)) := (Turn.refl _ _).setCell (p := ⟨g, k, none⟩) (.inl (by simp)) _
      have hB2 : Old w (wr.setCell ⟨g, k, none⟩ (B y)) := below_turn hB hT (by simp; exact HO.out.2.1) hB.size
      have y1 := h1.cell k y (by rw [List.getElem?_set_self (by omega)])
      have hrl : (r.set k y).length = 16 := by simp [hr]
      cases hb : isN (y &&& bitB j) 0 with
      | true =>
        rw [if_pos hb] at hg
        have HS := Lib.hid (And.intro h1 (And.intro hB2 (And.intro hg (And.intro hrl hif))))
        clear hO hB hT h1 hB2 hg hrl hif hr hx hxd hq hk hj hq15 hj8
        go_wp2_with fail
        go_roundw
        case rel => exact ⟨i + 1, f', r.set k y, by first | rfl | (congr 1), by have := HS.out.2.2.2.2; omega, HS.out.2.2.2.1, HS.out.2.2.1, HS.out.1, HS.out.2.1⟩
        case measure => simp [intOf]; omega
      | false =>
        rw [if_neg (by rw [hb]; decide)] at hg
        have HS := Lib.hid (And.intro h1 (And.intro hB2 hg))
        clear hO hB hT h1 hB2 hg hrl hif hr hx hxd hq hk hj hq15 hj8
        go_wp2_with fail
        go_ret
        exact ⟨g, c2, rfl, by rw [← HS.out.2.2]; exact HS.out.1, HS.out.2.1⟩
    · obtain rfl : f = 0 := by omega
      have hlti : ¬ (i : Int) < wd := by omega
      have hltd : decide ((i : Int) < (wd : Int)) = false := decide_eq_false hlti
      have hg' : r = TG := hg
      subst hg'
      have HX := Lib.hid (And.intro hO hB)
      clear hO hB hr hif hg
      go_wp2_with fail
      go_ret
      exact ⟨g, c2, rfl, HX.out.1, HX.out.2⟩
end Go.Proofs.Ytiocmebcbhbcmaa
