/-
  'baileylaw6.ModesWrap' returns true: the key wrap is RFC 3394's, in both directions, and back. No condition.
-/
import Derived.Test.YtiocmebcbhbcmaaMr8
import Derived.Test.YtiocmebcbhbcmaaZzMw1
namespace Go.Proofs.Ytiocmebcbhbcmaa
set_option maxRecDepth 100000
open Go.RowKit

def wrapV (k b : List UInt8) : List UInt8 × Int := if keyOk k then (if wrapLen b.length then (wrapF (encL (rks k) ((rks k).length / 16)) b, 0) else ([], 33)) else ([], 98)
def unwrapV (k b : List UInt8) : List UInt8 × Int := if keyOk k then (if unwrapLen b.length then unwrapF (decL (rks k) ((rks k).length / 16)) b else ([], 274)) else ([], 98)
theorem wrap_res (A C : Option Addr) (mk ck n cb : Nat) (k b : List UInt8) (w : World) (hk : Rd w A mk ck k) (hb : Rd w C n cb b) :
    Calls Try.prog 26 #[.slice A mk ck, .slice C n cb] w (RvRes w (wrapV k b)) := by
  have hn := hb.1
  have hm := hk.1
  unfold wrapV
  by_cases h : keyOk k
  · rw [if_pos h]
    by_cases hl : wrapLen b.length
    · rw [if_pos hl]
      exact wrap_any A C mk ck n cb k b w hk hb h (by rw [hn]; exact hl)
    · rw [if_neg hl]
      exact wrap_nolen A C mk ck n cb k w hk h (by rw [hn]; exact hl)
  · rw [if_neg h]
    exact wrap_nokey A C mk ck n cb w (by unfold keyOk at h; omega)
theorem rwrap_res (A C : Option Addr) (mk ck n cb : Nat) (k b : List UInt8) (w : World) (hk : Rd w A mk ck k) (hb : Rd w C n cb b) :
    Calls Try.prog 27 #[.slice A mk ck, .slice C n cb] w (RvRes w (wrapV k b)) := by
  have hn := hb.1
  have hm := hk.1
  unfold wrapV
  by_cases h : keyOk k
  · rw [if_pos h]
    by_cases hl : wrapLen b.length
    · rw [if_pos hl]
      exact rwrap_any A C mk ck n cb k b w hk hb h (by rw [hn]; exact hl)
    · rw [if_neg hl]
      exact rwrap_nolen A C mk ck n cb k w hk h (by rw [hn]; exact hl)
  · rw [if_neg h]
    exact rwrap_nokey A C mk ck n cb w (by unfold keyOk at h; omega)
theorem unwrap_res (A C : Option Addr) (mk ck n cb : Nat) (k b : List UInt8) (w : World) (hk : Rd w A mk ck k) (hb : Rd w C n cb b) :
    Calls Try.prog 28 #[.slice A mk ck, .slice C n cb] w (RvRes w (unwrapV k b)) := by
  have hn := hb.1
  have hm := hk.1
  unfold unwrapV
  by_cases h : keyOk k
  · rw [if_pos h]
    by_cases hl : unwrapLen b.length
    · rw [if_pos hl]
      exact unwrap_any A C mk ck n cb k b w hk hb h (by rw [hn]; exact hl)
    · rw [if_neg hl]
      exact unwrap_nolen A C mk ck n cb k w hk h (by rw [hn]; exact hl)
  · rw [if_neg h]
    exact unwrap_nokey A C mk ck n cb w (by unfold keyOk at h; omega)
theorem runwrap_res (A C : Option Addr) (mk ck n cb : Nat) (k b : List UInt8) (w : World) (hk : Rd w A mk ck k) (hb : Rd w C n cb b) :
    Calls Try.prog 29 #[.slice A mk ck, .slice C n cb] w (RvRes w (unwrapV k b)) := by
  have hn := hb.1
  have hm := hk.1
  unfold unwrapV
  by_cases h : keyOk k
  · rw [if_pos h]
    by_cases hl : unwrapLen b.length
    · rw [if_pos hl]
      exact runwrap_any A C mk ck n cb k b w hk hb h (by rw [hn]; exact hl)
    · rw [if_neg hl]
      exact runwrap_nolen A C mk ck n cb k w hk h (by rw [hn]; exact hl)
  · rw [if_neg h]
    exact runwrap_nokey A C mk ck n cb w (by unfold keyOk at h; omega)
theorem splice_mid (r y z : List UInt8) (p : Nat) (h : p + y.length ≤ r.length) (hz : z.length = y.length) : splice (splice r p y) p z = splice r p z := by
  unfold splice
  have e1 : (r.take p).length = p := by rw [List.length_take]; omega
  have t1 : (r.take p ++ (y ++ r.drop (p + y.length))).take p = r.take p := by rw [List.take_append_of_le_length (by omega), List.take_of_length_le (by omega)]
  have t2 : (r.take p ++ (y ++ r.drop (p + y.length))).drop (p + z.length) = r.drop (p + y.length) := by
    rw [List.drop_append, List.drop_eq_nil_of_le (by omega), List.nil_append, e1, show p + z.length - p = y.length by omega, List.drop_left']
    rfl
  rw [t1, t2, hz]
theorem splice_get (r y : List UInt8) (p : Nat) (h : p + y.length ≤ r.length) : ((splice r p y).drop p).take y.length = y := by
  unfold splice
  have e1 : (r.take p).length = p := by rw [List.length_take]; omega
  rw [List.drop_append, List.drop_eq_nil_of_le (by omega), List.nil_append, e1, Nat.sub_self, List.drop_zero, List.take_left']
  rfl
theorem splice_own (r : List UInt8) (p k : Nat) (h : p + k ≤ r.length) : splice r p ((r.drop p).take k) = r := by
  unfold splice
  have e1 : ((r.drop p).take k).length = k := by rw [List.length_take, List.length_drop]; omega
  rw [e1]
  conv => rhs; rw [← List.take_append_drop p r]
  congr 1
  conv => rhs; rw [← List.take_append_drop k (r.drop p)]
  rw [List.drop_drop]
/-- A step back undoes a step. -/
theorem uwF_wrF (E D : List UInt8 → List UInt8) (hE : ∀ l, l.length = 16 → (E l).length = 16) (hDE : ∀ l, l.length = 16 → D (E l) = l) (n s : Nat) (hn : 0 < n) (r : List UInt8) (hr : r.length = 8 * n + 8) : uwF D n s (wrF E n s r) = r := by
  obtain ⟨i, hi⟩ : ∃ i, s % n = i := ⟨_, rfl⟩
  have hin : i < n := by rw [← hi]; exact Nat.mod_lt _ hn
  obtain ⟨a, ha⟩ : ∃ a, r.take 8 = a := ⟨_, rfl⟩
  obtain ⟨q, hq⟩ : ∃ q, r.drop 8 = q := ⟨_, rfl⟩
  have hal : a.length = 8 := by rw [← ha, List.length_take]; omega
  have hql : q.length = 8 * n := by rw [← hq, List.length_drop]; omega
  have hrr : r = a ++ q := by rw [← ha, ← hq, List.take_append_drop]
  have hbl : ((q.drop (8 * i)).take 8).length = 8 := by rw [List.length_take, List.length_drop]; omega
  have hxin : (a ++ (q.drop (8 * i)).take 8).length = 16 := by rw [List.length_append, hal, hbl]
  obtain ⟨x, hx⟩ : ∃ x, E (a ++ (q.drop (8 * i)).take 8) = x := ⟨_, rfl⟩
  have hxl : x.length = 16 := by rw [← hx]; exact hE _ hxin
  have hx8 : (x.drop 8).length = 8 := by rw [List.length_drop]; omega
  have ht8 : (x.take 8).length = 8 := by rw [List.length_take]; omega
  obtain ⟨t, ht⟩ : ∃ t, bytes64 (UInt64.ofNat (s + 1)) = t := ⟨_, rfl⟩
  have htl : t.length = 8 := by rw [← ht, bytes64_len]
  have hyl : (xorL (x.take 8) t).length = 8 := xorL_lenLe _ _ 8 ht8 (by omega)
  have hD : D (xorL (xorL (x.take 8) t) t ++ ((splice q (8 * i) (x.drop 8)).drop (8 * i)).take 8) = a ++ (q.drop (8 * i)).take 8 := by
    have h1 := splice_get q (x.drop 8) (8 * i) (by omega)
    rw [hx8] at h1
    rw [xorL_back _ _ (by rw [ht8, htl]), h1, List.take_append_drop, ← hx, hDE _ hxin]
  rw [hrr, wrF_pair E n s i a q x hal hi hx hxl, ht, uwF_pair D n s i _ _ _ hyl hi (by rw [ht]; exact hD) hxin]
  have f1 : (a ++ (q.drop (8 * i)).take 8).take 8 = a := by rw [List.take_append_of_le_length (by omega), List.take_of_length_le (by omega)]
  have f2 : (a ++ (q.drop (8 * i)).take 8).drop 8 = (q.drop (8 * i)).take 8 := by rw [List.drop_append_of_le_length (by omega), List.drop_eq_nil_of_le (by omega), List.nil_append]
  rw [f1, f2, splice_mid q _ _ _ (by omega) (by rw [hbl, hx8]), splice_own q _ _ (by omega)]
theorem uwN_wrN (E D : List UInt8 → List UInt8) (hE : ∀ l, l.length = 16 → (E l).length = 16) (hDE : ∀ l, l.length = 16 → D (E l) = l) (n : Nat) (hn : 0 < n) (r : List UInt8) (hr : r.length = 8 * n + 8) : ∀ s, uwN D n s (wrN E n s r) = r
  | 0 => rfl
  | s + 1 => by
    have ih := uwN_wrN E D hE hDE n hn r hr s
    show uwN D n s (uwF D n s (wrF E n s (wrN E n s r))) = r
    rw [uwF_wrF E D hE hDE n s hn _ (by rw [wrN_len E hE n hn r hr s]; exact hr)]
    exact ih
theorem unwrap_wrap (k b : List UInt8) (h : (wrapV k b).2 = 0) : unwrapV k (wrapV k b).1 = (b, 0) := by
  unfold wrapV at h ⊢
  by_cases hk : keyOk k
  · rw [if_pos hk] at h ⊢
    by_cases hl : wrapLen b.length
    · rw [if_pos hl]
      obtain ⟨R, hR, hks⟩ : ∃ R, 0 < R ∧ (rks k).length = 16 * R := ⟨k.length / 4 + 7, by omega, rks_len k hk⟩
      rw [show (rks k).length / 16 = R by omega]
      have hE : ∀ l : List UInt8, l.length = 16 → (encL (rks k) R l).length = 16 := fun l hl => enc_ne _ R l hl hks
      have hlen := wrapF_len (encL (rks k) R) hE b hl
      unfold unwrapV
      rw [if_pos hk, show (rks k).length / 16 = R by omega, hlen]
      have hul : unwrapLen (b.length + 8) := by obtain ⟨h1, h2, h3⟩ := hl; exact ⟨by omega, by omega, by omega⟩
      rw [if_pos hul]
      have hb := uwN_wrN (encL (rks k) R) (decL (rks k) R) hE (fun l hl => dec_of_enc (rks k) R l hks hR hl) (b.length / 8) (by obtain ⟨h1, _⟩ := hl; omega) (sgn ++ b) (by rw [List.length_append]; simp only [sgn, List.length_cons, List.length_nil]; obtain ⟨_, _, h3⟩ := hl; omega) (6 * (b.length / 8))
      have hu : unwrapR (decL (rks k) R) (wrapF (encL (rks k) R) b) = sgn ++ b := by
        unfold unwrapR
        rw [hlen, show (b.length + 8) / 8 - 1 = b.length / 8 by omega]
        exact hb
      unfold unwrapF
      rw [hu, if_pos (by rfl)]
      rfl
    · rw [if_neg hl] at h; cases h
  · rw [if_neg hk] at h; cases h
set_option maxHeartbeats 4000000 in
theorem modesWrap_any (A C : Option Addr) (ma ca mb cb : Nat) (k b : List UInt8) (w : World) (hk : Rd w A ma ca k) (hb : Rd w C mb cb b) :
    Calls Try.prog 10 #[.slice A ma ca, .slice C mb cb] w (LawRes w) := by
  have hbeg := mbegun_any w
  have hk2 := hk.short (n := 40)
  have hb2 := hb.short (n := 80)
  have HH := Lib.hid (And.intro hbeg (And.intro hk2 (And.intro hb2 (And.intro hk hb))))
  obtain ⟨m1, hm1⟩ : ∃ m, min ma 40 = m := ⟨_, rfl⟩
  obtain ⟨m2, hm2⟩ : ∃ m, min mb 80 = m := ⟨_, rfl⟩
  obtain ⟨k1, hk1⟩ : ∃ k1, k.take 40 = k1 := ⟨_, rfl⟩
  obtain ⟨b1, hb1⟩ : ∃ b1, b.take 80 = b1 := ⟨_, rfl⟩
  rw [hm1, hk1] at hk2
  rw [hm2, hb1] at hb2
  have hm2b : m2 ≤ 80 := by omega
  have HM := Lib.hid (And.intro hm1 hm2)
  have HK := Lib.hid (And.intro hk2 hb2)
  clear hbeg hk hb hk2 hb2 hm1 hm2 hk1 hb1
  obtain ⟨V1, hV1⟩ : ∃ V, wrapV k1 b1 = V := ⟨_, rfl⟩
  obtain ⟨V2, hV2⟩ : ∃ V, unwrapV k1 b1 = V := ⟨_, rfl⟩
  obtain ⟨W1, v1⟩ := V1
  obtain ⟨W2, v2⟩ := V2
  have HV := Lib.hid (And.intro hV1 hV2)
  clear hV1 hV2
  go_enter Try.func10, Try.ntmps10
  go_wp2_with fail
  refine HH.out.1.mono ?_
  rintro e w1 ⟨rfl, hO1⟩
  have H1 := Lib.hid hO1
  clear hO1
  go_wp2_with fail
  refine (short_any A ma ca 40 k w1 (HH.out.2.2.2.1.below H1.out) (by omega)).mono ?_
  rintro e w2 ⟨rfl, rfl⟩
  go_wp2_with fail
  refine (short_any C mb cb 80 b w1 (HH.out.2.2.2.2.below H1.out) (by omega)).mono ?_
  rintro e w3 ⟨rfl, rfl⟩
  rw [HM.out.1, HM.out.2]
  go_wp2_with fail
  refine (wrap_res A C m1 ca m2 cb k1 b1 w1 (HK.out.1.below H1.out) (HK.out.2.below H1.out)).mono ?_
  rintro e w4 ⟨A4, n4, c4, rfl, hR4, hO4⟩
  rw [HV.out.1] at hR4
  have H4 := Lib.hid (And.intro hR4 (H1.out.trans hO4))
  simp only [HV.out.1]
  clear hR4 hO4
  go_wp2_with fail
  refine (rwrap_res A C m1 ca m2 cb k1 b1 w4 (HK.out.1.below H4.out.2) (HK.out.2.below H4.out.2)).mono ?_
  rintro e w5 ⟨A5, n5, c5, rfl, hR5, hO5⟩
  rw [HV.out.1] at hR5
  have H5 := Lib.hid (And.intro hR5 (And.intro hO5 (H4.out.2.trans hO5)))
  simp only [HV.out.1]
  clear hR5 hO5
  go_wp2_with fail
  refine (unwrap_res A C m1 ca m2 cb k1 b1 w5 (HK.out.1.below H5.out.2.2) (HK.out.2.below H5.out.2.2)).mono ?_
  rintro e w6 ⟨A6, n6, c6, rfl, hR6, hO6⟩
  rw [HV.out.2] at hR6
  have H6 := Lib.hid (And.intro hR6 (And.intro hO6 (H5.out.2.2.trans hO6)))
  simp only [HV.out.2]
  clear hR6 hO6
  go_wp2_with fail
  refine (runwrap_res A C m1 ca m2 cb k1 b1 w6 (HK.out.1.below H6.out.2.2) (HK.out.2.below H6.out.2.2)).mono ?_
  rintro e w7 ⟨A7, n7, c7, rfl, hR7, hO7⟩
  rw [HV.out.2] at hR7
  have H7 := Lib.hid (And.intro hR7 (And.intro hO7 (H6.out.2.2.trans hO7)))
  simp only [HV.out.2]
  clear hR7 hO7
  have s1 := (H4.out.1.below (Old.trans (Old.trans H5.out.2.1 H6.out.2.1) H7.out.2.1)).str
  have s2 := (H5.out.1.below (Old.trans H6.out.2.1 H7.out.2.1)).str
  have s3 := (H6.out.1.below H7.out.2.1).str
  have s4 := H7.out.1.str
  by_cases hz : v1 = 0
  · subst hz
    have hback := unwrap_wrap k1 b1 (by rw [HV.out.1])
    rw [HV.out.1] at hback
    have HB := Lib.hid hback
    clear hback
    go_wp2_with fail
    refine (unwrap_res A A4 m1 ca n4 c4 k1 W1 w7 (HK.out.1.below H7.out.2.2) (H4.out.1.below (Old.trans (Old.trans H5.out.2.1 H6.out.2.1) H7.out.2.1))).mono ?_
    rintro e w8 ⟨A8, n8, c8, rfl, hR8, hO8⟩
    rw [HB.out] at hR8
    simp only [HB.out]
    have s5 := hR8.str
    have s6 := (HK.out.2.below (H7.out.2.2.trans hO8)).str
    have H8 := Lib.hid (And.intro hR8 hO8)
    clear hR8 hO8 s1 s2 s3 s4
    go_wp2_with fail
    go_ret
    exact ⟨rfl, H7.out.2.2.trans H8.out.2⟩
  · have hzb : (v1 == 0) = false := by simpa using hz
    clear hz
    go_wp2_with fail
    go_ret
    exact ⟨rfl, H7.out.2.2⟩
end Go.Proofs.Ytiocmebcbhbcmaa
