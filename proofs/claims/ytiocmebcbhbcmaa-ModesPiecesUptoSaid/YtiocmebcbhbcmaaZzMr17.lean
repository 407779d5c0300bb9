/-
  Modes, the document's answer: All in ECB.
  Modes, the document's answer: All in CBC with padding, sealing.
-/
import Derived.Test.YtiocmebcbhbcmaaZzMr14
namespace Go.Proofs.Ytiocmebcbhbcmaa
set_option maxRecDepth 100000
open Go.RowKit

/-- What stands between two rounds of ECB. -/
structure EbS (w : World) (enc : Bool) (E D : List UInt8 → List UInt8) (N : Nat) (TG p : List UInt8) (wr : World) (A2 : Option Addr) (n2 c2 : Nat) (bl : List UInt8) (A3 : Option Addr) (n3 c3 : Nat) (ol : List UInt8) : Prop where
  b : Rd wr A2 n2 c2 bl
  bo : ∀ ad, A2 = some ad → ad.block < w.heap.size
  out : Own wr w.heap.size (.slice A3 n3 c3) ol
  len : ol.length + n2 ≤ N
  n16 : n2 % 16 = 0
  old : Old w wr
  tot : ol ++ (blkN 1 enc E D (n2 / 16) p bl).1 = TG
theorem EbS.next {w wr w1 w2 : World} {enc : Bool} {E D : List UInt8 → List UInt8} {N : Nat} {TG p : List UInt8} {A2 A3 A5 A6 : Option Addr} {n2 c2 n3 c3 n5 c5 n6 c6 : Nat} {b out x : List UInt8} (h : EbS w enc E D N TG p wr A2 n2 c2 b A3 n3 c3 out) (hn : 16 ≤ n2) (hx : x = if enc then E (b.take 16) else D (b.take 16))
    (hO : Old wr w1) (hG : Grew w.heap.size w1 w2 (.slice A3 n3 c3) A5 n5 c5 (out ++ x)) (h16 : x.length = 16)
    (hb : Rd wr A6 n6 c6 (b.drop 16)) (hn6 : n6 = n2 - 16) (hb2 : ∀ ad, A6 = some ad → ∃ a0, A2 = some a0 ∧ ad.block = a0.block) : EbS w enc E D N TG p w2 A6 n6 c6 (b.drop 16) A5 n5 c5 (out ++ x) := by
  have hT : Turn (Value.slice A3 n3 c3).ownBlock.toList w1 w2 := Turn.of_grown hG.grown
  have hbo : ∀ ad, A6 = some ad → ad.block < w.heap.size := fun ad e => by
    obtain ⟨a0, e1, e2⟩ := hb2 ad e
    rw [e2]; exact h.bo a0 e1
  refine ⟨(hb.below hO).turn hT (fun ad e hm => ?_), hbo, hG.own, ?_, by have := h.n16; omega, (h.old.trans hO).trans_below hG.below, ?_⟩
  · have h1 := (h.out.lt (by simpa using hm)).1
    have := hbo ad e
    omega
  · have := h.len
    rw [List.length_append, h16]
    omega
  · have hF : blkF 1 enc E D p (b.take 16) = (x, p) := by unfold blkF; rw [if_pos rfl, ← hx]
    rw [← h.tot, show n2 / 16 = n6 / 16 + 1 by omega]
    simp only [blkN]
    rw [hF, List.append_assoc]
set_option maxHeartbeats 4000000 in
theorem ralln_ecb (enc : Bool) (A P C : Option Addr) (mk ck mp cp n cb : Nat) (k p b : List UInt8) (w : World) (hk : Rd w A mk ck k) (hb : Rd w C n cb b) (hko : keyOk k) (hn : n ≤ 40000) :
    Calls Try.prog 15 #[.int .i64 1, .bool enc, .slice A mk ck, .slice P mp cp, .slice C n cb] w (RvNew w ((blkN 1 enc (encL (rks k) ((rks k).length / 16)) (decL (rks k) ((rks k).length / 16)) (n / 16) p b).1, shortV enc n)) := by
  have hcall := rnew_any A mk ck k w hk hko
  obtain ⟨TG, hTG⟩ : ∃ T, (blkN 1 enc (encL (rks k) ((rks k).length / 16)) (decL (rks k) ((rks k).length / 16)) (n / 16) p b).1 = T := ⟨_, rfl⟩
  obtain ⟨SV, hSV⟩ : ∃ T, shortV enc n = T := ⟨_, rfl⟩
  rw [hTG, hSV]
  have hcb := le_R16 hb
  obtain ⟨q, hq⟩ : ∃ q, n / 16 = q := ⟨_, rfl⟩
  have hq1 : Int.tdiv (n : Int) 16 = (q : Int) := by rw [Int.tdiv_eq_ediv_of_nonneg (by omega)]; omega
  have hq2 : (n : Int) / 16 = (q : Int) := by omega
  obtain ⟨n5, hn5⟩ : ∃ n5, q * 16 = n5 := ⟨_, rfl⟩
  have hn5i : (q : Int) * 16 = (n5 : Int) := by omega
  have hn5w : IntKind.i64.wrap (n5 : Int) = (n5 : Int) := IntWalk.i64_in _ (by omega)
  have hsl := slice_to C n cb n5 hb.spot (by omega)
  have hfr := hb.front (k := n5) (by omega)
  have hbl := hb.1
  have hsame : blkN 1 enc (encL (rks k) ((rks k).length / 16)) (decL (rks k) ((rks k).length / 16)) (n / 16) p b = blkN 1 enc (encL (rks k) ((rks k).length / 16)) (decL (rks k) ((rks k).length / 16)) (n5 / 16) p (b.take n5) := by
    rw [show n5 / 16 = n / 16 by omega]
    conv => lhs; rw [← List.take_append_drop n5 b]
    exact blkN_front 1 enc _ _ (n / 16) p (b.take n5) (b.drop n5) (by rw [List.length_take]; omega)
  rw [hsame] at hTG
  have hn5b : n5 ≤ n := by omega
  have hsv : SV = if n5 = n then 0 else if enc then 33 else 65 := by rw [← hSV]; unfold shortV; rw [hq, hn5]
  have HH := Lib.hid (And.intro hcall (And.intro (Nat.le_refl 0) (And.intro hfr (And.intro hTG hsv))))
  have HQ := Lib.hid (And.intro hq hn5)
  clear hcall hb hk hTG hq hn5 hfr hbl hsame hSV hsv
  by_cases h16 : n5 = n
  · have he : ((n5 : Int) == (n : Int)) = true := by simp; omega
    have hsv := HH.out.2.2.2.2
    rw [if_pos h16] at hsv
    have HS := Lib.hid hsv
    clear h16 hsv
    cases enc with
    | false =>
      go_enter Try.func15, Try.ntmps15
      go_wp2_with fail
      refine HH.out.1.mono ?_
      rintro e w1 ⟨c, kb, R, cap, g1, g2, rfl, hC, hB⟩
      have hR : (rks k).length / 16 = R := by have : (rks k).length = 16 * R := hC.2.2.1; omega
      have hTG := HH.out.2.2.2.1
      rw [hR] at hTG
      have hen := REn.of hC
      obtain ⟨E, hE⟩ : ∃ E, encL (rks k) R = E := ⟨_, rfl⟩
      obtain ⟨D, hD⟩ : ∃ D, decL (rks k) R = D := ⟨_, rfl⟩
      rw [hE, hD] at hen hTG
      have H1 := Lib.hid (And.intro hen (And.intro hB hTG))
      clear hC hen hE hD hR hB hko hTG
      have hst := (EbS.mk (HH.out.2.2.1.below H1.out.2.1) (fun ad e => (HH.out.2.2.1.below H1.out.2.1).lt ad e) (Own.nil w1 w1.heap.size) (by simp) (by have := HQ.out.2; omega) (Old.refl w1) (by rw [List.nil_append]; exact H1.out.2.2) : EbS w1 _ E D n5 TG p w1 C n5 cb (b.take n5) none 0 0 [])
      have HX := Lib.hid hst
      clear hst
      go_wp2_with fail
      go_loopw [13, 15] (fun v2 v3 wr => ∃ (A2 : Option Addr) (n2 c2 : Nat) (bl : List UInt8) (A3 : Option Addr) (n3 c3 : Nat) (out : List UInt8), v2 = .slice A2 n2 c2 ∧ v3 = .slice A3 n3 c3 ∧ EbS w1 false E D n5 TG p wr A2 n2 c2 bl A3 n3 c3 out) (fun v2 _ _ => sliceLen v2)
      case atStart => exact ⟨C, n5, cb, _, none, 0, 0, [], rfl, rfl, HX.out⟩
      case round =>
        obtain ⟨A2, n2, c2, bl, A3, n3, c3, out, rfl, rfl, hI⟩ := hrel
        have hn2 : n2 ≤ 40000 := by have := hI.len; omega
        by_cases hlt : 0 < n2
        · have hlti : (n2 : Int) > 0 := by omega
          have hltd : decide ((n2 : Int) > 0) = true := decide_eq_true hlti
          have h16 : 16 ≤ n2 := by have := hI.n16; omega
          obtain ⟨A6, n6, c6, hn6, hS6, hR6, hB6⟩ := hI.b.cut_ex2 (k := 16) h16
          have hsl2 := slice_to A2 n2 c2 16 hI.b.spot (by have := hI.b.2.1; omega)
          rw [show ((16 : Nat) : Int) = 16 from rfl] at hS6 hsl2
          have hr16 := hI.b.front (k := 16) h16
          have HI := Lib.hid (And.intro hI (And.intro hr16 (And.intro hR6 (And.intro hB6 (And.intro hn6 h16)))))
          clear hI hr16 hR6 hB6 hn6 hlt
          go_wp2_with (first | (go_at_call 32; refine (H1.out.1.2 wr _ _ _ HI.out.1.old HI.out.2.1).mono ?_; rintro e w5 ⟨sb, rfl, hR, hB, hsb⟩; have H5 := Lib.hid (And.intro hR hB); clear hR hB hsb) | (at_builtin; refine wp_app2 (.tmp 55) (.tmp 56) w1.heap.size (.slice A3 n3 c3) out (HI.out.1.out.below H5.out.2) (Nat.le_trans HI.out.1.old.size H5.out.2.size) (some ⟨sb, 0, none⟩) 16 16 _ H5.out.1 (by have := H5.out.1.1; have := HI.out.1.len; omega) rfl rfl rfl rfl ?_; intro A7 n7 c7 w7 hn7 hG; have H7 := Lib.hid hG; clear hG))
          have hnx := HI.out.1.next HI.out.2.2.2.2.2 (x := D (bl.take 16)) rfl H5.out.2 H7.out H5.out.1.1.symm HI.out.2.2.1 HI.out.2.2.2.2.1 HI.out.2.2.2.1
          have HN := Lib.hid hnx
          clear hnx
          go_roundw
          case rel => exact ⟨_, _, _, _, _, _, _, _, rfl, rfl, HN.out⟩
          case measure => have := HI.out.2.2.2.2.1; have := HI.out.2.2.2.2.2; simp [sliceLen]; omega
        · obtain rfl : n2 = 0 := by omega
          have hlti : ¬ ((0 : Nat) : Int) > 0 := by omega
          obtain rfl : bl = [] := List.length_eq_zero_iff.1 hI.b.1.symm
          have ht := hI.tot
          simp only [blkN, List.append_nil, Nat.zero_div] at ht
          have HI := Lib.hid (And.intro hI ht)
          clear hI ht hlt
          go_wp2_with fail
          refine bodyPost_ret (results_tmp2 rfl _ _ _) rfl ?_
          rw [HS.out, ← HI.out.2]
          exact ⟨_, _, _, rfl, HI.out.1.out.rd, fun ad e => (by have h1 := HI.out.1.out.addr_ge ad e; have h2 := H1.out.2.1.size; omega), Old.trans H1.out.2.1 HI.out.1.old⟩
    | true =>
      go_enter Try.func15, Try.ntmps15
      go_wp2_with fail
      refine HH.out.1.mono ?_
      rintro e w1 ⟨c, kb, R, cap, g1, g2, rfl, hC, hB⟩
      have hR : (rks k).length / 16 = R := by have : (rks k).length = 16 * R := hC.2.2.1; omega
      have hTG := HH.out.2.2.2.1
      rw [hR] at hTG
      have hen := REn.of hC
      obtain ⟨E, hE⟩ : ∃ E, encL (rks k) R = E := ⟨_, rfl⟩
      obtain ⟨D, hD⟩ : ∃ D, decL (rks k) R = D := ⟨_, rfl⟩
      rw [hE, hD] at hen hTG
      have H1 := Lib.hid (And.intro hen (And.intro hB hTG))
      clear hC hen hE hD hR hB hko hTG
      have hst := (EbS.mk (HH.out.2.2.1.below H1.out.2.1) (fun ad e => (HH.out.2.2.1.below H1.out.2.1).lt ad e) (Own.nil w1 w1.heap.size) (by simp) (by have := HQ.out.2; omega) (Old.refl w1) (by rw [List.nil_append]; exact H1.out.2.2) : EbS w1 _ E D n5 TG p w1 C n5 cb (b.take n5) none 0 0 [])
      have HX := Lib.hid hst
      clear hst
      go_wp2_with fail
      go_loopw [13, 15] (fun v2 v3 wr => ∃ (A2 : Option Addr) (n2 c2 : Nat) (bl : List UInt8) (A3 : Option Addr) (n3 c3 : Nat) (out : List UInt8), v2 = .slice A2 n2 c2 ∧ v3 = .slice A3 n3 c3 ∧ EbS w1 true E D n5 TG p wr A2 n2 c2 bl A3 n3 c3 out) (fun v2 _ _ => sliceLen v2)
      case atStart => exact ⟨C, n5, cb, _, none, 0, 0, [], rfl, rfl, HX.out⟩
      case round =>
        obtain ⟨A2, n2, c2, bl, A3, n3, c3, out, rfl, rfl, hI⟩ := hrel
        have hn2 : n2 ≤ 40000 := by have := hI.len; omega
        by_cases hlt : 0 < n2
        · have hlti : (n2 : Int) > 0 := by omega
          have hltd : decide ((n2 : Int) > 0) = true := decide_eq_true hlti
          have h16 : 16 ≤ n2 := by have := hI.n16; omega
          obtain ⟨A6, n6, c6, hn6, hS6, hR6, hB6⟩ := hI.b.cut_ex2 (k := 16) h16
          have hsl2 := slice_to A2 n2 c2 16 hI.b.spot (by have := hI.b.2.1; omega)
          rw [show ((16 : Nat) : Int) = 16 from rfl] at hS6 hsl2
          have hr16 := hI.b.front (k := 16) h16
          have HI := Lib.hid (And.intro hI (And.intro hr16 (And.intro hR6 (And.intro hB6 (And.intro hn6 h16)))))
          clear hI hr16 hR6 hB6 hn6 hlt
          go_wp2_with (first | (go_at_call 32; refine (H1.out.1.2 wr _ _ _ HI.out.1.old HI.out.2.1).mono ?_; rintro e w5 ⟨sb, rfl, hR, hB, hsb⟩; have H5 := Lib.hid (And.intro hR hB); clear hR hB hsb) | (go_at_call 33; refine (H1.out.1.1 w5 _ _ _ (Old.trans HI.out.1.old H5.out.2) (HI.out.2.1.below H5.out.2)).mono ?_; rintro e w6 ⟨sb2, rfl, hR, hB, hsb⟩; have H6 := Lib.hid (And.intro hR (Old.trans H5.out.2 hB)); clear hR hB hsb) | (at_builtin; refine wp_app2 (.tmp 55) (.tmp 56) w1.heap.size (.slice A3 n3 c3) out (HI.out.1.out.below H6.out.2) (Nat.le_trans HI.out.1.old.size H6.out.2.size) (some ⟨sb2, 0, none⟩) 16 16 _ H6.out.1 (by have := H6.out.1.1; have := HI.out.1.len; omega) rfl rfl rfl rfl ?_; intro A7 n7 c7 w7 hn7 hG; have H7 := Lib.hid hG; clear hG))
          have hnx := HI.out.1.next HI.out.2.2.2.2.2 (x := E (bl.take 16)) rfl H6.out.2 H7.out H6.out.1.1.symm HI.out.2.2.1 HI.out.2.2.2.2.1 HI.out.2.2.2.1
          have HN := Lib.hid hnx
          clear hnx
          go_roundw
          case rel => exact ⟨_, _, _, _, _, _, _, _, rfl, rfl, HN.out⟩
          case measure => have := HI.out.2.2.2.2.1; have := HI.out.2.2.2.2.2; simp [sliceLen]; omega
        · obtain rfl : n2 = 0 := by omega
          have hlti : ¬ ((0 : Nat) : Int) > 0 := by omega
          obtain rfl : bl = [] := List.length_eq_zero_iff.1 hI.b.1.symm
          have ht := hI.tot
          simp only [blkN, List.append_nil, Nat.zero_div] at ht
          have HI := Lib.hid (And.intro hI ht)
          clear hI ht hlt
          go_wp2_with fail
          refine bodyPost_ret (results_tmp2 rfl _ _ _) rfl ?_
          rw [HS.out, ← HI.out.2]
          exact ⟨_, _, _, rfl, HI.out.1.out.rd, fun ad e => (by have h1 := HI.out.1.out.addr_ge ad e; have h2 := H1.out.2.1.size; omega), Old.trans H1.out.2.1 HI.out.1.old⟩
  · have he : ((n5 : Int) == (n : Int)) = false := by simp; omega
    have hsv := HH.out.2.2.2.2
    rw [if_neg h16] at hsv
    have HS := Lib.hid hsv
    clear h16 hsv
    cases enc with
    | false =>
      go_enter Try.func15, Try.ntmps15
      go_wp2_with fail
      refine HH.out.1.mono ?_
      rintro e w1 ⟨c, kb, R, cap, g1, g2, rfl, hC, hB⟩
      have hR : (rks k).length / 16 = R := by have : (rks k).length = 16 * R := hC.2.2.1; omega
      have hTG := HH.out.2.2.2.1
      rw [hR] at hTG
      have hen := REn.of hC
      obtain ⟨E, hE⟩ : ∃ E, encL (rks k) R = E := ⟨_, rfl⟩
      obtain ⟨D, hD⟩ : ∃ D, decL (rks k) R = D := ⟨_, rfl⟩
      rw [hE, hD] at hen hTG
      have H1 := Lib.hid (And.intro hen (And.intro hB hTG))
      clear hC hen hE hD hR hB hko hTG
      have hst := (EbS.mk (HH.out.2.2.1.below H1.out.2.1) (fun ad e => (HH.out.2.2.1.below H1.out.2.1).lt ad e) (Own.nil w1 w1.heap.size) (by simp) (by have := HQ.out.2; omega) (Old.refl w1) (by rw [List.nil_append]; exact H1.out.2.2) : EbS w1 _ E D n5 TG p w1 C n5 cb (b.take n5) none 0 0 [])
      have HX := Lib.hid hst
      clear hst
      go_wp2_with fail
      go_loopw [13, 15] (fun v2 v3 wr => ∃ (A2 : Option Addr) (n2 c2 : Nat) (bl : List UInt8) (A3 : Option Addr) (n3 c3 : Nat) (out : List UInt8), v2 = .slice A2 n2 c2 ∧ v3 = .slice A3 n3 c3 ∧ EbS w1 false E D n5 TG p wr A2 n2 c2 bl A3 n3 c3 out) (fun v2 _ _ => sliceLen v2)
      case atStart => exact ⟨C, n5, cb, _, none, 0, 0, [], rfl, rfl, HX.out⟩
      case round =>
        obtain ⟨A2, n2, c2, bl, A3, n3, c3, out, rfl, rfl, hI⟩ := hrel
        have hn2 : n2 ≤ 40000 := by have := hI.len; omega
        by_cases hlt : 0 < n2
        · have hlti : (n2 : Int) > 0 := by omega
          have hltd : decide ((n2 : Int) > 0) = true := decide_eq_true hlti
          have h16 : 16 ≤ n2 := by have := hI.n16; omega
          obtain ⟨A6, n6, c6, hn6, hS6, hR6, hB6⟩ := hI.b.cut_ex2 (k := 16) h16
          have hsl2 := slice_to A2 n2 c2 16 hI.b.spot (by have := hI.b.2.1; omega)
          rw [show ((16 : Nat) : Int) = 16 from rfl] at hS6 hsl2
          have hr16 := hI.b.front (k := 16) h16
          have HI := Lib.hid (And.intro hI (And.intro hr16 (And.intro hR6 (And.intro hB6 (And.intro hn6 h16)))))
          clear hI hr16 hR6 hB6 hn6 hlt
          go_wp2_with (first | (go_at_call 32; refine (H1.out.1.2 wr _ _ _ HI.out.1.old HI.out.2.1).mono ?_; rintro e w5 ⟨sb, rfl, hR, hB, hsb⟩; have H5 := Lib.hid (And.intro hR hB); clear hR hB hsb) | (at_builtin; refine wp_app2 (.tmp 55) (.tmp 56) w1.heap.size (.slice A3 n3 c3) out (HI.out.1.out.below H5.out.2) (Nat.le_trans HI.out.1.old.size H5.out.2.size) (some ⟨sb, 0, none⟩) 16 16 _ H5.out.1 (by have := H5.out.1.1; have := HI.out.1.len; omega) rfl rfl rfl rfl ?_; intro A7 n7 c7 w7 hn7 hG; have H7 := Lib.hid hG; clear hG))
          have hnx := HI.out.1.next HI.out.2.2.2.2.2 (x := D (bl.take 16)) rfl H5.out.2 H7.out H5.out.1.1.symm HI.out.2.2.1 HI.out.2.2.2.2.1 HI.out.2.2.2.1
          have HN := Lib.hid hnx
          clear hnx
          go_roundw
          case rel => exact ⟨_, _, _, _, _, _, _, _, rfl, rfl, HN.out⟩
          case measure => have := HI.out.2.2.2.2.1; have := HI.out.2.2.2.2.2; simp [sliceLen]; omega
        · obtain rfl : n2 = 0 := by omega
          have hlti : ¬ ((0 : Nat) : Int) > 0 := by omega
          obtain rfl : bl = [] := List.length_eq_zero_iff.1 hI.b.1.symm
          have ht := hI.tot
          simp only [blkN, List.append_nil, Nat.zero_div] at ht
          have HI := Lib.hid (And.intro hI ht)
          clear hI ht hlt
          go_wp2_with fail
          refine bodyPost_ret (results_tmp2 rfl _ _ _) rfl ?_
          rw [HS.out, ← HI.out.2]
          exact ⟨_, _, _, rfl, HI.out.1.out.rd, fun ad e => (by have h1 := HI.out.1.out.addr_ge ad e; have h2 := H1.out.2.1.size; omega), Old.trans H1.out.2.1 HI.out.1.old⟩
    | true =>
      go_enter Try.func15, Try.ntmps15
      go_wp2_with fail
      refine HH.out.1.mono ?_
      rintro e w1 ⟨c, kb, R, cap, g1, g2, rfl, hC, hB⟩
      have hR : (rks k).length / 16 = R := by have : (rks k).length = 16 * R := hC.2.2.1; omega
      have hTG := HH.out.2.2.2.1
      rw [hR] at hTG
      have hen := REn.of hC
      obtain ⟨E, hE⟩ : ∃ E, encL (rks k) R = E := ⟨_, rfl⟩
      obtain ⟨D, hD⟩ : ∃ D, decL (rks k) R = D := ⟨_, rfl⟩
      rw [hE, hD] at hen hTG
      have H1 := Lib.hid (And.intro hen (And.intro hB hTG))
      clear hC hen hE hD hR hB hko hTG
      have hst := (EbS.mk (HH.out.2.2.1.below H1.out.2.1) (fun ad e => (HH.out.2.2.1.below H1.out.2.1).lt ad e) (Own.nil w1 w1.heap.size) (by simp) (by have := HQ.out.2; omega) (Old.refl w1) (by rw [List.nil_append]; exact H1.out.2.2) : EbS w1 _ E D n5 TG p w1 C n5 cb (b.take n5) none 0 0 [])
      have HX := Lib.hid hst
      clear hst
      go_wp2_with fail
      go_loopw [13, 15] (fun v2 v3 wr => ∃ (A2 : Option Addr) (n2 c2 : Nat) (bl : List UInt8) (A3 : Option Addr) (n3 c3 : Nat) (out : List UInt8), v2 = .slice A2 n2 c2 ∧ v3 = .slice A3 n3 c3 ∧ EbS w1 true E D n5 TG p wr A2 n2 c2 bl A3 n3 c3 out) (fun v2 _ _ => sliceLen v2)
      case atStart => exact ⟨C, n5, cb, _, none, 0, 0, [], rfl, rfl, HX.out⟩
      case round =>
        obtain ⟨A2, n2, c2, bl, A3, n3, c3, out, rfl, rfl, hI⟩ := hrel
        have hn2 : n2 ≤ 40000 := by have := hI.len; omega
        by_cases hlt : 0 < n2
        · have hlti : (n2 : Int) > 0 := by omega
          have hltd : decide ((n2 : Int) > 0) = true := decide_eq_true hlti
          have h16 : 16 ≤ n2 := by have := hI.n16; omega
          obtain ⟨A6, n6, c6, hn6, hS6, hR6, hB6⟩ := hI.b.cut_ex2 (k := 16) h16
          have hsl2 := slice_to A2 n2 c2 16 hI.b.spot (by have := hI.b.2.1; omega)
          rw [show ((16 : Nat) : Int) = 16 from rfl] at hS6 hsl2
          have hr16 := hI.b.front (k := 16) h16
          have HI := Lib.hid (And.intro hI (And.intro hr16 (And.intro hR6 (And.intro hB6 (And.intro hn6 h16)))))
          clear hI hr16 hR6 hB6 hn6 hlt
          go_wp2_with (first | (go_at_call 32; refine (H1.out.1.2 wr _ _ _ HI.out.1.old HI.out.2.1).mono ?_; rintro e w5 ⟨sb, rfl, hR, hB, hsb⟩; have H5 := Lib.hid (And.intro hR hB); clear hR hB hsb) | (go_at_call 33; refine (H1.out.1.1 w5 _ _ _ (Old.trans HI.out.1.old H5.out.2) (HI.out.2.1.below H5.out.2)).mono ?_; rintro e w6 ⟨sb2, rfl, hR, hB, hsb⟩; have H6 := Lib.hid (And.intro hR (Old.trans H5.out.2 hB)); clear hR hB hsb) | (at_builtin; refine wp_app2 (.tmp 55) (.tmp 56) w1.heap.size (.slice A3 n3 c3) out (HI.out.1.out.below H6.out.2) (Nat.le_trans HI.out.1.old.size H6.out.2.size) (some ⟨sb2, 0, none⟩) 16 16 _ H6.out.1 (by have := H6.out.1.1; have := HI.out.1.len; omega) rfl rfl rfl rfl ?_; intro A7 n7 c7 w7 hn7 hG; have H7 := Lib.hid hG; clear hG))
          have hnx := HI.out.1.next HI.out.2.2.2.2.2 (x := E (bl.take 16)) rfl H6.out.2 H7.out H6.out.1.1.symm HI.out.2.2.1 HI.out.2.2.2.2.1 HI.out.2.2.2.1
          have HN := Lib.hid hnx
          clear hnx
          go_roundw
          case rel => exact ⟨_, _, _, _, _, _, _, _, rfl, rfl, HN.out⟩
          case measure => have := HI.out.2.2.2.2.1; have := HI.out.2.2.2.2.2; simp [sliceLen]; omega
        · obtain rfl : n2 = 0 := by omega
          have hlti : ¬ ((0 : Nat) : Int) > 0 := by omega
          obtain rfl : bl = [] := List.length_eq_zero_iff.1 hI.b.1.symm
          have ht := hI.tot
          simp only [blkN, List.append_nil, Nat.zero_div] at ht
          have HI := Lib.hid (And.intro hI ht)
          clear hI ht hlt
          go_wp2_with fail
          refine bodyPost_ret (results_tmp2 rfl _ _ _) rfl ?_
          rw [HS.out, ← HI.out.2]
          exact ⟨_, _, _, rfl, HI.out.1.out.rd, fun ad e => (by have h1 := HI.out.1.out.addr_ge ad e; have h2 := H1.out.2.1.size; omega), Old.trans H1.out.2.1 HI.out.1.old⟩
end Go.Proofs.Ytiocmebcbhbcmaa
namespace Go.Proofs.Ytiocmebcbhbcmaa
set_option maxRecDepth 100000
open Go.RowKit

set_option maxHeartbeats 4000000 in
theorem ralln_pad (A P C : Option Addr) (mk ck cp n cb : Nat) (k p b : List UInt8) (w : World) (hk : Rd w A mk ck k) (hp : Rd w P 16 cp p) (hb : Rd w C n cb b) (hko : keyOk k) (hn : n ≤ 40000) :
    Calls Try.prog 15 #[.int .i64 3, .bool true, .slice A mk ck, .slice P 16 cp, .slice C n cb] w (RvNew w ((blkN 2 true (encL (rks k) ((rks k).length / 16)) (decL (rks k) ((rks k).length / 16)) ((n + (16 - n % 16)) / 16) p (b ++ List.replicate (16 - n % 16) (UInt8.ofNat (16 - n % 16)))).1, 0)) := by
  have hcall := rnew_any A mk ck k w hk hko
  obtain ⟨TG, hTG⟩ : ∃ T, (blkN 2 true (encL (rks k) ((rks k).length / 16)) (decL (rks k) ((rks k).length / 16)) ((n + (16 - n % 16)) / 16) p (b ++ List.replicate (16 - n % 16) (UInt8.ofNat (16 - n % 16)))).1 = T := ⟨_, rfl⟩
  rw [hTG]
  obtain ⟨rm, hrm⟩ : ∃ r, n % 16 = r := ⟨_, rfl⟩
  have hrm1 : (n : Int) % 16 = (rm : Int) := by omega
  have hrm2 : Int.tmod (n : Int) 16 = (rm : Int) := by rw [Int.tmod_eq_emod_of_nonneg (by omega)]; exact hrm1
  obtain ⟨pd, hpd⟩ : ∃ r, 16 - rm = r := ⟨_, rfl⟩
  have hpd1 : 16 - (rm : Int) = (pd : Int) := by omega
  have hpdw : IntKind.i64.wrap (pd : Int) = (pd : Int) := IntWalk.i64_in _ (by omega)
  have hpd16 : pd ≤ 16 := by omega
  have hrmw : IntKind.i64.wrap (rm : Int) = (rm : Int) := IntWalk.i64_in _ (by omega)
  obtain ⟨zb, hzb⟩ : ∃ z, UInt8.ofNat pd = z := ⟨_, rfl⟩
  have hcv : ∀ W : World, (convert 3 5 (.int .i64 (pd : Int))).run Try.prog W = .ok (B zb) W := fun W => by
    rw [conv_int W .u8 Try.underlying3 Try.underlying5, IntWalk.u8_in _ (by omega), ← hzb]
    have : ((UInt8.ofNat pd).toNat : Int) = (pd : Int) := by rw [UInt8.toNat_ofNat', Nat.mod_eq_of_lt (by omega)]
    show _ = Result.ok (Value.int .u8 ((UInt8.ofNat pd).toNat : Int)) W
    rw [this]
  rw [hrm, hpd, hzb] at hTG
  have hnl := hb.1
  have hcb := le_R16 hb
  obtain ⟨q, hq⟩ : ∃ q, n / 16 = q := ⟨_, rfl⟩
  have hq1 : Int.tdiv (n : Int) 16 = (q : Int) := by rw [Int.tdiv_eq_ediv_of_nonneg (by omega)]; omega
  have hq2 : (n : Int) / 16 = (q : Int) := by omega
  obtain ⟨n5, hn5⟩ : ∃ n5, q * 16 = n5 := ⟨_, rfl⟩
  have hn5i : (q : Int) * 16 = (n5 : Int) := by omega
  have hn5w : IntKind.i64.wrap (n5 : Int) = (n5 : Int) := IntWalk.i64_in _ (by omega)
  have hsl := slice_to C n cb n5 hb.spot (by omega)
  have HH := Lib.hid (And.intro hcall (And.intro hp (And.intro hb (And.intro hnl hTG))))
  have HV := Lib.hid hcv
  clear hcv hrm hpd hzb hnl
  have HQ := Lib.hid (And.intro hq hn5)
  clear hcall hp hb hk hTG hq hn5
  by_cases h16 : n5 = n
  · have he : ((n5 : Int) == (n : Int)) = true := by simp; omega
    clear h16
    go_enter Try.func15, Try.ntmps15
    go_wp2_with fail
    refine HH.out.1.mono ?_
    rintro e w1 ⟨c, kb, R, cap, g1, g2, rfl, hC, hB⟩
    have hR : (rks k).length / 16 = R := by have : (rks k).length = 16 * R := hC.2.2.1; omega
    have hTG := HH.out.2.2.2.2
    rw [hR] at hTG
    have hen := REn.of hC
    obtain ⟨E, hE⟩ : ∃ E, encL (rks k) R = E := ⟨_, rfl⟩
    obtain ⟨D, hD⟩ : ∃ D, decL (rks k) R = D := ⟨_, rfl⟩
    rw [hE, hD] at hen hTG
    have H1 := Lib.hid (And.intro hen (And.intro hB hTG))
    clear hC hen hE hD hR hB hko hTG
    go_upto_region 24 with (at_builtin; refine wp_app2 (.const (.slice none 0 0)) (.tmp 75) w1.heap.size (.slice none 0 0) [] (Own.nil _ _) (Nat.le_refl _) C n cb b (HH.out.2.2.1.below H1.out.2.1) (by have := HH.out.2.2.2.1; simp only [List.length_nil]; omega) rfl rfl rfl rfl ?_; intro A2 m2 c2 w2 hm2 hG2; have H2 := Lib.hid hG2; clear hG2)
    have hO2 : Own w2 w1.heap.size (.slice A2 m2 c2) (b ++ List.replicate 0 zb) := by have := H2.out.own; rw [List.nil_append] at this; simpa using this
    have HO2 := Lib.hid (And.intro hO2 H2.out.below)
    clear hO2 hm2 H2
    go_wp2_with fail
    go_loopw [18, 19] (fun v iv wr => ∃ (t : Nat) (A3 : Option Addr) (m3 c3 : Nat), t ≤ pd ∧ iv = .int .i64 (t : Int) ∧ v = .slice A3 m3 c3 ∧ Own wr w1.heap.size (.slice A3 m3 c3) (b ++ List.replicate t zb) ∧ Old w1 wr) (fun _ iv _ => pd - (intOf iv).toNat)
    case atStart => exact ⟨0, A2, m2, c2, by omega, rfl, rfl, HO2.out.1, HO2.out.2⟩
    case round =>
      obtain ⟨t, A3, m3, c3, ht, rfl, rfl, hO3, hB3⟩ := hrel
      by_cases hlt : t < pd
      · have hlti : (t : Int) < (pd : Int) := by omega
        have hltd : decide ((t : Int) < (pd : Int)) = true := decide_eq_true hlti
        obtain ⟨t1, ht1⟩ : ∃ t1, t + 1 = t1 := ⟨_, rfl⟩
        have ht1i : (t : Int) + 1 = (t1 : Int) := by omega
        have ht1w : IntKind.i64.wrap (t1 : Int) = (t1 : Int) := IntWalk.i64_in _ (by omega)
        have hcv1 := HV.out wr
        have H3 := Lib.hid (And.intro hO3 (And.intro hB3 ht1))
        have hs3 := hB3.size
        clear hO3 hB3 ht1 hlt
        go_wp2_with (at_builtin; refine wp_app_lit (.tmp 82) (.tmp 85) w1.heap.size (.slice A3 m3 c3) _ H3.out.1 hs3 [zb] (by rw [List.length_append, List.length_replicate]; have := HH.out.2.2.2.1; omega) (by simp) rfl rfl rfl rfl rfl rfl ?_; intro A4 m4 c4 w4 hm4 hG4; have H4 := Lib.hid hG4; clear hG4)
        have hO4 : Own w4 w1.heap.size (.slice A4 m4 c4) (b ++ List.replicate t1 zb) := by
          have h1 := H4.out.own
          rw [List.append_assoc, ← List.replicate_succ', H3.out.2.2] at h1
          exact h1
        have HN := Lib.hid (And.intro hO4 (Below.trans (H3.out.2.1.alloc _) H4.out.below))
        clear hO4 hm4 hs3
        go_roundw
        case rel => exact ⟨t1, A4, m4, c4, by have := H3.out.2.2; omega, rfl, rfl, HN.out.1, HN.out.2⟩
        case measure => have := H3.out.2.2; simp [intOf]; omega
      · obtain rfl : t = pd := by omega
        have hlti : ¬ (t : Int) < (t : Int) := by omega
        have hltd : decide ((t : Int) < (t : Int)) = false := decide_eq_false hlti
        have hm3 : m3 = n + t := by have h1 := hO3.len; rw [List.length_append, List.length_replicate, ← HH.out.2.2.2.1] at h1; exact h1
        have H3 := Lib.hid (And.intro hO3 (And.intro hB3 hm3))
        have hm3b : m3 ≤ 100000 := by omega
        clear hO3 hB3 hm3 hlt
        go_wp2_with (go_at_call 34; refine (rcbc_any c true E D P A3 cp m3 c3 p _ wr (H1.out.1.below H3.out.2.1) ((HH.out.2.1.below H1.out.2.1).below H3.out.2.1) H3.out.1.rd hm3b).mono ?_; rintro e w4 ⟨A4, n4, c4, rfl, hO4, hB4⟩; have H4 := Lib.hid (And.intro hO4 hB4); clear hO4 hB4)
        refine bodyPost_ret (results_tmp2 rfl _ _ _) rfl ?_
        rw [← H1.out.2.2, ← H3.out.2.2]
        exact ⟨_, _, _, rfl, H4.out.1.rd, fun ad e => (by have h1 := H4.out.1.addr_ge ad e; have h2 := H1.out.2.1.size; have h3 := H3.out.2.1.size; omega), Old.trans (Old.trans H1.out.2.1 H3.out.2.1) H4.out.2⟩
  · have he : ((n5 : Int) == (n : Int)) = false := by simp; omega
    clear h16
    go_enter Try.func15, Try.ntmps15
    go_wp2_with fail
    refine HH.out.1.mono ?_
    rintro e w1 ⟨c, kb, R, cap, g1, g2, rfl, hC, hB⟩
    have hR : (rks k).length / 16 = R := by have : (rks k).length = 16 * R := hC.2.2.1; omega
    have hTG := HH.out.2.2.2.2
    rw [hR] at hTG
    have hen := REn.of hC
    obtain ⟨E, hE⟩ : ∃ E, encL (rks k) R = E := ⟨_, rfl⟩
    obtain ⟨D, hD⟩ : ∃ D, decL (rks k) R = D := ⟨_, rfl⟩
    rw [hE, hD] at hen hTG
    have H1 := Lib.hid (And.intro hen (And.intro hB hTG))
    clear hC hen hE hD hR hB hko hTG
    go_upto_region 24 with (at_builtin; refine wp_app2 (.const (.slice none 0 0)) (.tmp 75) w1.heap.size (.slice none 0 0) [] (Own.nil _ _) (Nat.le_refl _) C n cb b (HH.out.2.2.1.below H1.out.2.1) (by have := HH.out.2.2.2.1; simp only [List.length_nil]; omega) rfl rfl rfl rfl ?_; intro A2 m2 c2 w2 hm2 hG2; have H2 := Lib.hid hG2; clear hG2)
    have hO2 : Own w2 w1.heap.size (.slice A2 m2 c2) (b ++ List.replicate 0 zb) := by have := H2.out.own; rw [List.nil_append] at this; simpa using this
    have HO2 := Lib.hid (And.intro hO2 H2.out.below)
    clear hO2 hm2 H2
    go_wp2_with fail
    go_loopw [18, 19] (fun v iv wr => ∃ (t : Nat) (A3 : Option Addr) (m3 c3 : Nat), t ≤ pd ∧ iv = .int .i64 (t : Int) ∧ v = .slice A3 m3 c3 ∧ Own wr w1.heap.size (.slice A3 m3 c3) (b ++ List.replicate t zb) ∧ Old w1 wr) (fun _ iv _ => pd - (intOf iv).toNat)
    case atStart => exact ⟨0, A2, m2, c2, by omega, rfl, rfl, HO2.out.1, HO2.out.2⟩
    case round =>
      obtain ⟨t, A3, m3, c3, ht, rfl, rfl, hO3, hB3⟩ := hrel
      by_cases hlt : t < pd
      · have hlti : (t : Int) < (pd : Int) := by omega
        have hltd : decide ((t : Int) < (pd : Int)) = true := decide_eq_true hlti
        obtain ⟨t1, ht1⟩ : ∃ t1, t + 1 = t1 := ⟨_, rfl⟩
        have ht1i : (t : Int) + 1 = (t1 : Int) := by omega
        have ht1w : IntKind.i64.wrap (t1 : Int) = (t1 : Int) := IntWalk.i64_in _ (by omega)
        have hcv1 := HV.out wr
        have H3 := Lib.hid (And.intro hO3 (And.intro hB3 ht1))
        have hs3 := hB3.size
        clear hO3 hB3 ht1 hlt
        go_wp2_with (at_builtin; refine wp_app_lit (.tmp 82) (.tmp 85) w1.heap.size (.slice A3 m3 c3) _ H3.out.1 hs3 [zb] (by rw [List.length_append, List.length_replicate]; have := HH.out.2.2.2.1; omega) (by simp) rfl rfl rfl rfl rfl rfl ?_; intro A4 m4 c4 w4 hm4 hG4; have H4 := Lib.hid hG4; clear hG4)
        have hO4 : Own w4 w1.heap.size (.slice A4 m4 c4) (b ++ List.replicate t1 zb) := by
          have h1 := H4.out.own
          rw [List.append_assoc, ← List.replicate_succ', H3.out.2.2] at h1
          exact h1
        have HN := Lib.hid (And.intro hO4 (Below.trans (H3.out.2.1.alloc _) H4.out.below))
        clear hO4 hm4 hs3
        go_roundw
        case rel => exact ⟨t1, A4, m4, c4, by have := H3.out.2.2; omega, rfl, rfl, HN.out.1, HN.out.2⟩
        case measure => have := H3.out.2.2; simp [intOf]; omega
      · obtain rfl : t = pd := by omega
        have hlti : ¬ (t : Int) < (t : Int) := by omega
        have hltd : decide ((t : Int) < (t : Int)) = false := decide_eq_false hlti
        have hm3 : m3 = n + t := by have h1 := hO3.len; rw [List.length_append, List.length_replicate, ← HH.out.2.2.2.1] at h1; exact h1
        have H3 := Lib.hid (And.intro hO3 (And.intro hB3 hm3))
        have hm3b : m3 ≤ 100000 := by omega
        clear hO3 hB3 hm3 hlt
        go_wp2_with (go_at_call 34; refine (rcbc_any c true E D P A3 cp m3 c3 p _ wr (H1.out.1.below H3.out.2.1) ((HH.out.2.1.below H1.out.2.1).below H3.out.2.1) H3.out.1.rd hm3b).mono ?_; rintro e w4 ⟨A4, n4, c4, rfl, hO4, hB4⟩; have H4 := Lib.hid (And.intro hO4 hB4); clear hO4 hB4)
        refine bodyPost_ret (results_tmp2 rfl _ _ _) rfl ?_
        rw [← H1.out.2.2, ← H3.out.2.2]
        exact ⟨_, _, _, rfl, H4.out.1.rd, fun ad e => (by have h1 := H4.out.1.addr_ge ad e; have h2 := H1.out.2.1.size; have h3 := H3.out.2.1.size; omega), Old.trans (Old.trans H1.out.2.1 H3.out.2.1) H4.out.2⟩
end Go.Proofs.Ytiocmebcbhbcmaa
