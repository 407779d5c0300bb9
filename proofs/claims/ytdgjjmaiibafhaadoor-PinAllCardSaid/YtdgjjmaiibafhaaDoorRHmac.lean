/-
  Contract of the reference's HMAC.
-/
import Derived.Test.YtdgjjmaiibafhaaDoorMade
import Derived.Deep.DeepCutAuto
namespace Go.Proofs.YtdgjjmaiibafhaaDoor
open Go.RowKit

theorem rhkey_len (kind : Int) (key : List UInt8) (hk : 1 ≤ kind ∧ kind ≤ 5) (h : key.length ≤ 140737488352000) : (rhkey kind key).length ≤ bl kind := by
  rw [← hkey_r kind hk key h]; exact hkey_len kind key hk
theorem xorAll_len (l : List UInt8) (x : UInt8) : (xorAll l x).length = l.length := by simp [xorAll]
theorem padTo_lt (B : Nat) (l : List UInt8) (k : Nat) (x : UInt8) (h : l[k]? = some x) : (padTo B l)[k]? = some x := by
  unfold padTo
  rw [List.getElem?_append_left (List.getElem?_eq_some_iff.1 h).1]; exact h
theorem padTo_ge (B : Nat) (l : List UInt8) (k : Nat) (h : l.length ≤ k) (hk : k < B) : (padTo B l)[k]? = some 0 := by
  unfold padTo zs
  rw [List.getElem?_append_right h, List.getElem?_replicate, if_pos (by omega)]
theorem xorAll_get (l : List UInt8) (x y : UInt8) (k : Nat) (h : l[k]? = some y) : (xorAll l x)[k]? = some (y ^^^ x) := by
  unfold xorAll; rw [List.getElem?_map, h]; rfl
theorem rhmac_out (kind : Int) (hk : ¬ (1 ≤ kind ∧ kind ≤ 5)) (v1 v2 : Value) (w : World) :
    Calls Tryd.prog 43 #[.int .i64 kind, v1, v2] w fun e w' => e = .returned (.slice none 0 0) ∧ w = w' := by
  have hz : hblock kind = 0 := by simp [hblock]; omega
  go_enter Tryd.func43, Tryd.ntmps43
  go_wp2_with (go_at_call 50; refine (rblock_any kind _).mono ?_; rintro e w' ⟨rfl, rfl⟩; rw [hz])
  go_ret
  exact ⟨rfl, rfl⟩
set_option maxHeartbeats 1000000 in
theorem rhmac_any (kind : Int) (hk : 1 ≤ kind ∧ kind ≤ 5) (A : Option Addr) (m c : Nat) (key : List UInt8) (A2 : Option Addr) (m2 c2 : Nat) (b : List UInt8) (w : World) (hr : Rd w A m c key) (hl : key.length ≤ 140737488352000)
    (hr2 : Rd w A2 m2 c2 b) (hl2 : b.length ≤ 140737488351500) :
    Calls Tryd.prog 43 #[.int .i64 kind, .slice A m c, .slice A2 m2 c2] w (RowRes w (rhmac kind key b)) := by
  have hbc := bl_cases kind hk
  have hblk : hblock kind = ((bl kind : Nat) : Int) := by rcases hbc with ⟨h1, h2⟩ | ⟨h1, h2⟩ <;> rw [h1, h2] <;> rfl
  have HBl := Lib.hid (rblock_any kind)
  have hm := hr.1
  have hkl := rhkey_len kind key hk hl
  have hk1 : rhkey kind key = if bl kind < m then rof kind key else key := by unfold rhkey; rw [hm]
  have HR := Lib.hid (rof_res_all kind)
  have HRl := Lib.hid (rof_len kind hk)
  have HS := Lib.hid (hsize_le kind hk)
  have hpl := padTo_len (bl kind) (rhkey kind key) hkl
  have hB64 : 64 ≤ bl kind ∧ bl kind ≤ 128 := by rcases hbc with ⟨h1, h2⟩ | ⟨h1, h2⟩ <;> omega
  have hdef : rhmac kind key b = rof kind (xorAll (padTo (bl kind) (rhkey kind key)) 92 ++ rof kind (xorAll (padTo (bl kind) (rhkey kind key)) 54 ++ b)) := rfl
  rw [hblk] at HBl
  generalize bl kind = BL at *
  have HH := Lib.hid (And.intro hr (And.intro hl (And.intro hr2 (And.intro hl2 (And.intro hk1 (And.intro hkl (And.intro hpl (And.intro hdef hB64))))))))
  have hB0 : (((BL : Nat) : Int) == 0) = false := by rw [beq_eq_false_iff_ne]; omega
  have hBi : (BL : Int) ≤ 128 := by omega
  clear hr hl hr2 hl2 hk1 hkl hpl hdef hB64 hblk hbc hm
  go_enter Tryd.func43, Tryd.ntmps43
  go_upto_if 20 with (go_at_call 50; refine (HBl.out _).mono ?_; rintro e w' ⟨rfl, rfl⟩)
  go_cut [1] (fun v wx => ∃ A' m' c', v = .slice A' m' c' ∧ Rd wx A' m' c' (rhkey kind key) ∧ Below w.heap.size w wx)
  case first =>
    rcases Nat.lt_or_ge BL m with hlt | hge
    · have hgi : (BL : Int) < m := by omega
      have hk1 := HH.out.2.2.2.2.1
      rw [if_pos hlt] at hk1
      have Hk1 := Lib.hid hk1
      clear hk1 hlt
      go_wp2_with (go_at_call 51; refine (HR.out A m c key w HH.out.1 HH.out.2.1).mono ?_; rintro e w1 ⟨A1, n1, c1, rfl, hO1, hb1⟩)
      go_meet
      case rel => exact ⟨A1, n1, c1, rfl, by rw [Hk1.out]; exact hO1.rd, hb1⟩
    · have hgi : ¬ ((BL : Int) < m) := by omega
      have hk1 := HH.out.2.2.2.2.1
      rw [if_neg (by omega)] at hk1
      have Hk1 := Lib.hid hk1
      clear hk1 hge
      go_wp2_with fail
      go_meet
      case rel => exact ⟨A, m, c, rfl, by rw [Hk1.out]; exact HH.out.1, Below.refl _ _⟩
  case rest =>
    obtain ⟨A', m', c', rfl, hrd, hbw⟩ := hcut
    generalize wc = wx at *
    have hm' := hrd.1
    have hlk : m' ≤ BL := by rw [hm']; exact HH.out.2.2.2.2.2.1
    obtain ⟨hkk, hhk⟩ : ∃ hkk, rhkey kind key = hkk := ⟨_, rfl⟩
    rw [hhk] at hrd hm'
    obtain ⟨pd, hpd⟩ : ∃ pd, padTo BL hkk = pd := ⟨_, rfl⟩
    have hpl : pd.length = BL := by rw [← hpd, ← hhk]; exact HH.out.2.2.2.2.2.2.1
    have hmk := Tryd.prog_make BL (by have := HH.out.2.2.2.2.2.2.2.2; omega)
    have HX := Lib.hid (And.intro hrd (And.intro hbw (And.intro hm' (And.intro hhk (And.intro hpd hpl)))))
    clear hrd hbw hm' hhk hpd hpl
    go_wp2_with fail
    have z0 := two_zeros wx BL (by have := HH.out.2.2.2.2.2.2.2.2; unfold maxLen; omega)
    have HZ := Lib.hid z0
    clear z0 hmk
    go_loopw [10] (fun i wr => ∃ k : Nat, k ≤ BL ∧ i = .int .i64 k ∧ Own wr wx.heap.size (.slice (some ⟨wx.heap.size, 0, none⟩) BL BL) (mixTo (xorAll pd 54) (zs BL) k) ∧ Own wr wx.heap.size (.slice (some ⟨wx.heap.size + 1, 0, none⟩) BL BL) (mixTo (xorAll pd 92) (zs BL) k) ∧ Below wx.heap.size wx wr) (fun i _ => BL - (intOf i).toNat)
    case atStart => exact ⟨0, by omega, rfl, by simpa [mixTo] using HZ.out.1, by simpa [mixTo] using HZ.out.2.1, HZ.out.2.2⟩
    case round =>
      obtain ⟨k, hk2, rfl, hI, hO, hB⟩ := hrel
      rcases Nat.lt_or_ge k BL with hlt | hge
      · have hki : (k : Int) < BL := by omega
        have hk0 : (0 : Int) ≤ k := by omega
        have l54 : (xorAll pd 54).length = BL := by rw [xorAll_len, HX.out.2.2.2.2.2]
        have l92 : (xorAll pd 92).length = BL := by rw [xorAll_len, HX.out.2.2.2.2.2]
        have ci := hI.cell k 0 (by rw [mixTo_get _ _ _ (by omega)]; simp [zs, hlt])
        have fi := hI.frozen k
        have hrx := HX.out.1.below hB
        rcases Nat.lt_or_ge k m' with hkm | hkm
        · obtain ⟨x, hx⟩ : ∃ x, hkk[k]? = some x := ⟨_, List.getElem?_eq_getElem (by rw [← HX.out.2.2.1]; exact hkm)⟩
          have hpx : pd[k]? = some x := by rw [← HX.out.2.2.2.2.1]; exact padTo_lt _ _ _ _ hx
          obtain ⟨bb, off, rfl, hat⟩ := hrx.addr (by omega)
          have cx := hat.2 k x hx
          have h1 := hI.set_ k (x ^^^ 54) hlt
          rw [mixTo_set _ _ _ _ (xorAll_get _ _ _ _ hpx) (by rw [zs_len]; exact hlt)] at h1
          have hO' : Own (wr.setCell ⟨wx.heap.size, k, none⟩ (B (x ^^^ 54))) wx.heap.size (.slice (some ⟨wx.heap.size + 1, 0, none⟩) BL BL) (mixTo (xorAll pd 92) (zs BL) k) := hO.turn ((Turn.refl [wx.heap.size] wr).setCell (.inl (by simp)) _) (fun g hg hm => by simp [Value.ownBlock] at hg hm; omega)
          have co := hO'.cell k 0 (by rw [mixTo_get _ _ _ (by omega)]; simp [zs, hlt])
          have fo := hO'.frozen k
          have h2 := hO'.set_ k (x ^^^ 92) hlt
          rw [mixTo_set _ _ _ _ (xorAll_get _ _ _ _ hpx) (by rw [zs_len]; exact hlt)] at h2
          have h3 := h1.turn ((Turn.refl [wx.heap.size + 1] _).setCell (p := ⟨wx.heap.size + 1, k, none⟩) (.inl (by simp)) (B (x ^^^ 92))) (fun g hg hm => by simp [Value.ownBlock] at hg hm; omega)
          have h4 := (hB.setCell (p := ⟨wx.heap.size, k, none⟩) (Nat.le_refl _) (B (x ^^^ 54))).setCell (p := ⟨wx.heap.size + 1, k, none⟩) (Nat.le_succ _) (B (x ^^^ 92))
          have hmi : (k : Int) < m' := by omega
          have Hr := Lib.hid (And.intro h3 (And.intro h2 h4))
          clear hI hO hB hrx hx hpx hat h1 hO' h2 h3 h4 l54 l92 hlt hkm hk2
          go_wp2_with fail
          refine ⟨⟨k + 1, by omega, by go_num, Hr.out.1, Hr.out.2.1, Hr.out.2.2⟩, by simp [intOf]; omega⟩
        · have hpx : pd[k]? = some 0 := by rw [← HX.out.2.2.2.2.1]; exact padTo_ge _ _ _ (by rw [← HX.out.2.2.1]; exact hkm) hlt
          have h1 := hI.set_ k (0 ^^^ 54) hlt
          rw [mixTo_set _ _ _ _ (xorAll_get _ _ _ _ hpx) (by rw [zs_len]; exact hlt)] at h1
          have hO' : Own (wr.setCell ⟨wx.heap.size, k, none⟩ (B (0 ^^^ 54))) wx.heap.size (.slice (some ⟨wx.heap.size + 1, 0, none⟩) BL BL) (mixTo (xorAll pd 92) (zs BL) k) := hO.turn ((Turn.refl [wx.heap.size] wr).setCell (.inl (by simp)) _) (fun g hg hm => by simp [Value.ownBlock] at hg hm; omega)
          have co := hO'.cell k 0 (by rw [mixTo_get _ _ _ (by omega)]; simp [zs, hlt])
          have fo := hO'.frozen k
          have h2 := hO'.set_ k (0 ^^^ 92) hlt
          rw [mixTo_set _ _ _ _ (xorAll_get _ _ _ _ hpx) (by rw [zs_len]; exact hlt)] at h2
          have h3 := h1.turn ((Turn.refl [wx.heap.size + 1] _).setCell (p := ⟨wx.heap.size + 1, k, none⟩) (.inl (by simp)) (B (0 ^^^ 92))) (fun g hg hm => by simp [Value.ownBlock] at hg hm; omega)
          have h4 := (hB.setCell (p := ⟨wx.heap.size, k, none⟩) (Nat.le_refl _) (B (0 ^^^ 54))).setCell (p := ⟨wx.heap.size + 1, k, none⟩) (Nat.le_succ _) (B (0 ^^^ 92))
          rw [show B (0 ^^^ 54) = .int .u8 54 from rfl] at h3 h2 h4 co fo
          rw [show B (0 ^^^ 92) = .int .u8 92 from rfl] at h3 h2 h4
          have hmi : ¬ ((k : Int) < m') := by omega
          have x54 : binOp .xor 5 (.int .u8 0) (.int .u8 54) = pure (.int .u8 54) := xorI_B _ 0 54 (by decide)
          have x92 : binOp .xor 5 (.int .u8 0) (.int .u8 92) = pure (.int .u8 92) := xorI_B _ 0 92 (by decide)
          have Hr := Lib.hid (And.intro h3 (And.intro h2 h4))
          clear hI hO hB hrx hpx h1 hO' h2 h3 h4 l54 l92 hlt hkm hk2
          go_wp2_with fail
          refine ⟨⟨k + 1, by omega, by go_num, Hr.out.1, Hr.out.2.1, Hr.out.2.2⟩, by simp [intOf]; omega⟩
      · obtain rfl : k = BL := by omega
        have hq : ¬ ((k : Int) < k) := by omega
        have l54 : (xorAll pd 54).length = k := by rw [xorAll_len, HX.out.2.2.2.2.2]
        have l92 : (xorAll pd 92).length = k := by rw [xorAll_len, HX.out.2.2.2.2.2]
        have e1 : mixTo (xorAll pd 54) (zs k) k = xorAll pd 54 := by unfold mixTo; rw [List.take_of_length_le (by omega), List.drop_eq_nil_of_le (by rw [zs_len]; omega), List.append_nil]
        have e2 : mixTo (xorAll pd 92) (zs k) k = xorAll pd 92 := by unfold mixTo; rw [List.take_of_length_le (by omega), List.drop_eq_nil_of_le (by rw [zs_len]; omega), List.append_nil]
        rw [e1] at hI
        rw [e2] at hO
        have hrb : Rd wr A2 m2 c2 b := (HH.out.2.2.1.below HX.out.2.1).below hB
        have H1 := Lib.hid (And.intro hI (And.intro hO (And.intro hB (And.intro hrb (And.intro l54 l92)))))
        clear hI hO hB hrb l54 l92 e1 e2 hge hk2
        go_wp2_with (at_builtin; go_must (refine wp_app2 (.tmp 52) (.tmp 53) wx.heap.size _ (xorAll pd 54) H1.out.1 H1.out.2.2.1.size A2 m2 c2 b H1.out.2.2.2.1 (by rw [H1.out.2.2.2.2.1]; have := HH.out.2.2.2.1; omega) rfl rfl rfl rfl ?_; intro A3 n3 c3 w3 hn3 hG3))
        refine (HR.out A3 n3 c3 _ w3 hG3.own.rd (by rw [List.length_append, H1.out.2.2.2.2.1]; have := HH.out.2.2.2.1; omega)).mono ?_
        rintro e w4 ⟨A4, n4, c4, rfl, hO4, hb4⟩
        have h3n : ∀ q, (Value.slice (some ⟨wx.heap.size + 1, 0, none⟩) k k).ownBlock = some q → (Value.slice (some ⟨wx.heap.size, 0, none⟩) k k).ownBlock ≠ some q := by
          intro q hq hq2
          simp [Value.ownBlock] at hq hq2; omega
        have hO3 : Own w3 wx.heap.size (.slice (some ⟨wx.heap.size + 1, 0, none⟩) k k) (xorAll pd 92) := H1.out.2.1.keep fun q hq => hG3.grown.block q (H1.out.2.1.lt hq).2 (fun e => h3n q hq e.symm)
        have hO4' := hO3.below hb4
        have hsz4 : wx.heap.size ≤ w4.heap.size := Nat.le_trans hG3.below.size hb4.size |> fun h => Nat.le_trans H1.out.2.2.1.size h
        have hl4 : (rof kind (xorAll pd 54 ++ b)).length ≤ 64 := by rw [HRl.out _ (by rw [List.length_append, H1.out.2.2.2.2.1]; have := HH.out.2.2.2.1; omega)]; exact HS.out
        have hb34 : Below wx.heap.size wx w4 := (H1.out.2.2.1.trans hG3.below).trans (hb4.mono (Nat.le_trans H1.out.2.2.1.size hG3.below.size))
        have H4 := Lib.hid (And.intro hO4' (And.intro hO4.rd (And.intro hsz4 (And.intro hl4 hb34))))
        clear h3n hO3 hO4' hO4 hsz4 hl4 hb34 hb4 hG3
        go_wp2_with (at_builtin; go_must (refine wp_app2 (.tmp 57) (.tmp 58) wx.heap.size _ (xorAll pd 92) H4.out.1 H4.out.2.2.1 A4 n4 c4 _ H4.out.2.1 (by rw [H1.out.2.2.2.2.2]; have := H4.out.2.2.2.1; omega) rfl rfl rfl rfl ?_; intro A5 n5 c5 w5 hn5 hG5))
        refine (HR.out A5 n5 c5 _ w5 hG5.own.rd (by rw [List.length_append, H1.out.2.2.2.2.2]; have := H4.out.2.2.2.1; omega)).mono ?_
        rintro e w6 ⟨A6, n6, c6, rfl, hO6, hb6⟩
        go_wp2_with fail
        go_ret
        refine ⟨A6, n6, c6, rfl, ?_, ?_⟩
        · rw [HH.out.2.2.2.2.2.2.2.1, HX.out.2.2.2.1, HX.out.2.2.2.2.1]
          exact hO6.mono (Nat.le_trans HX.out.2.1.size (Nat.le_trans H4.out.2.2.1 hG5.below.size))
        · have h5 := H4.out.2.2.2.2.trans hG5.below
          exact HX.out.2.1.trans ((h5.trans (hb6.mono h5.size)).mono HX.out.2.1.size)
/-- HMAC of any kind: nothing of one that there is not. -/
def rhm (kind : Int) (key b : List UInt8) : List UInt8 := if 1 ≤ kind ∧ kind ≤ 5 then rhmac kind key b else []
theorem rhmac_res_all (kind : Int) (A : Option Addr) (m c : Nat) (key : List UInt8) (A2 : Option Addr) (m2 c2 : Nat) (b : List UInt8) (w : World) (hr : Rd w A m c key) (hl : key.length ≤ 140737488352000)
    (hr2 : Rd w A2 m2 c2 b) (hl2 : b.length ≤ 140737488351500) :
    Calls Tryd.prog 43 #[.int .i64 kind, .slice A m c, .slice A2 m2 c2] w (RowRes w (rhm kind key b)) := by
  by_cases hk : 1 ≤ kind ∧ kind ≤ 5
  · unfold rhm; rw [if_pos hk]; exact rhmac_any kind hk A m c key A2 m2 c2 b w hr hl hr2 hl2
  · unfold rhm; rw [if_neg hk]
    refine (rhmac_out kind hk _ _ w).mono ?_
    rintro e w' ⟨rfl, rfl⟩
    exact ⟨none, 0, 0, rfl, Own.nil _ _, Below.refl _ _⟩
theorem hmac_res_all (kind : Int) (A : Option Addr) (m c : Nat) (key : List UInt8) (A2 : Option Addr) (m2 c2 : Nat) (ls : List (List UInt8)) (w : World) (hr : Rd w A m c key) (hlk : key.length ≤ 140737488352000)
    (hp : PartsAt w A2 m2 c2 ls) (hl : ls.flatten.length ≤ 140737488351500) (hK : KAt w) :
    Calls Tryd.prog 42 #[.int .i64 kind, .slice A m c, .slice A2 m2 c2] w (RowRes w (rhm kind key ls.flatten)) := by
  by_cases hk : 1 ≤ kind ∧ kind ≤ 5
  · unfold rhm; rw [if_pos hk]; exact hmac_res kind hk A m c key A2 m2 c2 ls w hr hlk hp hl hK
  · unfold rhm; rw [if_neg hk]
    refine (hmac_none kind (by omega) A m c A2 m2 c2 w).mono ?_
    rintro e w' ⟨rfl, rfl⟩
    exact ⟨none, 0, 0, rfl, Own.nil _ _, Below.refl _ _⟩
end Go.Proofs.YtdgjjmaiibafhaaDoor
