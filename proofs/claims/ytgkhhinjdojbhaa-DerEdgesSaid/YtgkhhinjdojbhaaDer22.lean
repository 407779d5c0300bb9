/-
  DER: Arcs.
-/
import Derived.Test.YtgkhhinjdojbhaaDer21
namespace Go.Proofs.Ytgkhhinjdojbhaa
open Go.RowKit

/-- Arcs out of bytes: v: what is begun; l: the arcs ahead. -/
def arcsGo : List UInt8 → Nat → List Int → Option (List Int)
  | [], _, l => some l
  | x :: r, v, l =>
    if 268435536 < v * 128 + x.toNat % 128 then none
    else if 128 ≤ x.toNat then arcsGo r (v * 128 + x.toNat % 128) l
    else if l = [] then (if 268435456 < v * 128 + x.toNat % 128 - 40 * min ((v * 128 + x.toNat % 128) / 40) 2 then none else arcsGo r 0 [((min ((v * 128 + x.toNat % 128) / 40) 2 : Nat) : Int), ((v * 128 + x.toNat % 128 - 40 * min ((v * 128 + x.toNat % 128) / 40) 2 : Nat) : Int)])
    else if 268435456 < v * 128 + x.toNat % 128 then none else arcsGo r 0 (l ++ [((v * 128 + x.toNat % 128 : Nat) : Int)])
theorem and127b (X : Nat) (hx : X < 256) : bits .and .u8 (X : Int) 127 = ((X % 128 : Nat) : Int) := by
  have h1 : (BitVec.ofInt 8 (X : Int)).toNat = X := by
    rw [BitVec.ofInt_natCast, BitVec.toNat_ofNat]; exact Nat.mod_eq_of_lt (by omega)
  show IntKind.u8.wrap ((BitVec.ofInt 8 (X : Int) &&& BitVec.ofInt 8 127).toNat : Int) = _
  rw [BitVec.toNat_and, h1, show (BitVec.ofInt 8 127).toNat = 2 ^ 7 - 1 from rfl, Nat.and_two_pow_sub_one_eq_mod]
  exact IntWalk.u8_in _ (by omega)
theorem or7 (v r : Nat) (hv : v ≤ 268435536) (hr : r < 128) : bits .or .i64 ((v : Int) * 128) (r : Int) = ((v * 128 + r : Nat) : Int) := by
  rw [show (v : Int) * 128 = ((v * 128 : Nat) : Int) by omega, bits_or_i64 _ _ (by omega) (by omega)]
  have := Nat.two_pow_add_eq_or_of_lt (i := 7) (b := r) (by omega) v
  rw [show 2 ^ 7 * v = v * 128 by omega] at this
  rw [← this]
theorem wrap64_nat {n : Nat} (h : (n : Int) < 1000000000000) : wrap64 (n : Int) = n := by unfold wrap64; omega
theorem min_big {q : Nat} (h : 2 < q) (hb : (q : Int) < 1000000000000) : Value.int IntKind.i64 (if 2 < wrap64 (q : Int) then 2 else wrap64 (q : Int)) = Value.int IntKind.i64 2 := by
  rw [wrap64_nat hb, if_pos (by omega)]
theorem min_small {q : Nat} (h : q ≤ 2) (hb : (q : Int) < 1000000000000) : Value.int IntKind.i64 (if 2 < wrap64 (q : Int) then 2 else wrap64 (q : Int)) = Value.int IntKind.i64 (q : Int) := by
  rw [wrap64_nat hb, if_neg (by omega)]
theorem arc_le {v r V : Nat} (hv : v ≤ 268435536) (hr : r < 128) (hV : v * 128 + r = V) : (V : Int) ≤ 34359748800 := by omega
def Nd.arcs (n : Nd) : Option (List Int) := if decide (n.tag = 6) && n.may then arcsGo n.b 0 [] else none
/-- What Arcs gives. -/
def ArcsPost (w w' : World) (e : Ending) : Option (List Int) → Prop
  | none => e = .returned (.tuple #[.slice none 0 0, .bool false])
  | some l => ∃ A1 n1 c1, e = .returned (.tuple #[.slice A1 n1 c1, .bool true]) ∧ OwnE Try.eI w' w.heap.size (.slice A1 n1 c1) l
set_option maxRecDepth 100000 in
set_option maxHeartbeats 8000000 in
theorem arcs_any (P : Nat → Prop) (Z : NF → Prop) (n : Nd) (f : NF) (w : World) (hN : NdR P Z w f n) (hP : ∀ b, P b → b < w.heap.size) (hl : n.b.length ≤ 100000) :
    Calls Try.prog 25 #[f.val] w fun e w' => ArcsPost w w' e n.arcs ∧ Below w.heap.size w w' := by
  obtain ⟨X, hX⟩ : ∃ X, w.heap.size = X := ⟨_, rfl⟩
  obtain ⟨tag, A1, m1, c1, A2, m2, c2⟩ := f
  obtain ⟨wA, hwA⟩ : ∃ wA, w.alloc (.cells #[.int .i64 tag, .slice A1 m1 c1, .slice A2 m2 c2] 25) = wA := ⟨_, rfl⟩
  have bA : Blk wA X 25 #[.int .i64 tag, .slice A1 m1 c1, .slice A2 m2 c2] := by rw [← hwA, ← hX]; exact Blk.new _ _ _
  have hbA : Below w.heap.size w wA := by rw [← hwA]; exact (Below.refl _ _).alloc (Nat.le_refl _) _
  obtain ⟨g0, g1, g2⟩ : wA.cell? ⟨X, 0, none⟩ = some (.int .i64 tag) ∧ wA.cell? ⟨X, 1, none⟩ = some (.slice A1 m1 c1) ∧ wA.cell? ⟨X, 2, none⟩ = some (.slice A2 m2 c2) := by rw [bA.cell, bA.cell, bA.cell]; exact ⟨rfl, rfl, rfl⟩
  have hPA : ∀ b, P b → b < wA.heap.size := fun b hb => by have := hP b hb; have := hbA.size; omega
  have hNA := hN.bel hbA hP
  obtain ⟨htag, hbs⟩ : n.tag = tag ∧ Rd wA A1 m1 c1 n.b := by
    cases hNA with
    | mk _ bs fs ks hb => exact ⟨rfl, hb⟩
  have hc := mayTop_any P Z n ⟨tag, A1, m1, c1, A2, m2, c2⟩ wA hNA hPA
  obtain ⟨ans, hans⟩ : ∃ ans, n.arcs = ans := ⟨_, rfl⟩
  rw [hans]
  unfold Nd.arcs at hans
  rw [htag] at hans
  obtain ⟨mv, hmv⟩ : ∃ mv, n.may = mv := ⟨_, rfl⟩
  rw [hmv] at hc hans
  have hlb := hbs.1
  have hm1 : m1 ≤ 100000 := by omega
  have HB := Lib.hid (And.intro hbA (And.intro bA (And.intro hbs hlb)))
  obtain ⟨bs, hbe⟩ : ∃ bs, n.b = bs := ⟨_, rfl⟩
  rw [hbe] at HB hans
  have HANS := Lib.hid hans
  clear hbA bA hN hNA hPA hmv htag hbs hlb hans hbe hl
  simp only [NF.val] at hc ⊢
  by_cases h2 : tag = 6
  · subst h2
    go_enter Try.func25, Try.ntmps25
    go_wp2_with fail
    try rw [hX]
    try rw [hwA]
    go_wp2_with fail
    refine hc.mono ?_
    rintro e w1 ⟨rfl, hb1⟩
    have H1 := Lib.hid (And.intro (HB.out.2.2.1.below hb1) (HB.out.1.trans (hb1.mono HB.out.1.size)))
    obtain ⟨q0, q1, q2⟩ : w1.cell? ⟨X, 0, none⟩ = some (.int .i64 6) ∧ w1.cell? ⟨X, 1, none⟩ = some (.slice A1 m1 c1) ∧ w1.cell? ⟨X, 2, none⟩ = some (.slice A2 m2 c2) := by rw [(HB.out.2.1.below hb1).cell, (HB.out.2.1.below hb1).cell, (HB.out.2.1.below hb1).cell]; exact ⟨rfl, rfl, rfl⟩
    clear hb1 hc
    cases mv with
    | false =>
      have HN := Lib.hid (show ans = none from HANS.out.symm)
      go_wp2_with fail
      go_ret2
      rw [HN.out]
      exact ⟨rfl, by first | exact H1.out.2 | (rw [← hX]; exact H1.out.2)⟩
    | true =>
      have HN := Lib.hid (show arcsGo bs 0 [] = ans from HANS.out)
      go_wp2_with fail
      go_loopw [4, 5, 20] (fun ll vv kk wr => ∃ (j v : Nat) (A : Option Addr) (nl cl : Nat) (l : List Int), j ≤ m1 ∧ kk = .int .i64 (j : Int) ∧ vv = .int .i64 (v : Int) ∧ v ≤ 268435536 ∧ ll = .slice A nl cl ∧ OwnE Try.eI wr w1.heap.size (.slice A nl cl) l ∧ nl ≤ 2 * j ∧ arcsGo (bs.drop j) v l = ans ∧ Below w1.heap.size w1 wr) (fun _ _ kk _ => m1 - (intOf kk).toNat)
      case atStart => exact ⟨0, 0, none, 0, 0, [], by omega, rfl, rfl, by omega, rfl, OwnE.nil _ _, by omega, HN.out, Below.refl _ _⟩
      case round =>
        obtain ⟨j, v, A, nl, cl, l, hj, rfl, rfl, hv, rfl, hO, hnl, hgo, hB⟩ := hrel
        have hBw : Below w.heap.size w wr := H1.out.2.trans (hB.mono H1.out.2.size)
        by_cases hlt : j < m1
        · have hi : (j : Int) < m1 := by omega
          have hd : decide ((j : Int) < (m1 : Int)) = true := decide_eq_true hi
          have hj0 : ¬ ((j : Int) < 0) := by omega
          obtain ⟨g, off, hAe, hat⟩ := (H1.out.1.below hB).addr (by omega)
          subst hAe
          obtain ⟨x, hx⟩ : ∃ x, bs[j]? = some x := ⟨_, List.getElem?_eq_getElem (by have := HB.out.2.2.2; omega)⟩
          have cx := hat.2 j x hx
          unfold B at cx
          obtain ⟨hjl, hxe⟩ := List.getElem?_eq_some_iff.1 hx
          rw [List.drop_eq_getElem_cons hjl, hxe] at hgo
          unfold arcsGo at hgo
          have hxl := x.toNat_lt
          obtain ⟨X0, hX0⟩ : ∃ X0, x.toNat = X0 := ⟨_, rfl⟩
          rw [hX0] at cx hgo hxl
          have ha := and127b X0 hxl
          obtain ⟨r, hr⟩ : ∃ r, X0 % 128 = r := ⟨_, rfl⟩
          rw [hr] at ha hgo
          have hr2 : r < 128 := by omega
          have hwr : wrap64 (r : Int) = r := wrap64_nat (by omega)
          have ho := or7 v r hv hr2
          obtain ⟨V, hV⟩ : ∃ V, v * 128 + r = V := ⟨_, rfl⟩
          rw [hV] at ho hgo
          have hVb : (V : Int) ≤ 34359748800 := arc_le hv hr2 hV
          have hln := Lib.hid hO.len
          have HS := Lib.hid (And.intro hO (And.intro hB hBw))
          have HG := Lib.hid hgo
          clear hO hB hBw hgo hx hjl hxe hX0 hat hr hV
          by_cases t1 : 268435536 < V
          · have t1i : (268435536 : Int) < V := by omega
            have t1d : decide ((268435536 : Int) < (V : Int)) = true := decide_eq_true t1i
            have hgo := HG.out
            rw [if_pos t1] at hgo
            have HA := Lib.hid hgo.symm
            clear hgo
            go_wp2_with fail
            go_ret2
            rw [HA.out]
            exact ⟨rfl, by first | exact HS.out.2.2 | (rw [← hX]; exact HS.out.2.2)⟩
          have t1i : ¬ (268435536 : Int) < V := by omega
          have t1d : decide ((268435536 : Int) < (V : Int)) = false := decide_eq_false t1i
          have hgo := HG.out
          rw [if_neg t1] at hgo
          have HG := Lib.hid hgo
          clear hgo
          by_cases t2 : 128 ≤ X0
          · have t2i : (128 : Int) ≤ X0 := by omega
            have t2d : decide ((128 : Int) ≤ (X0 : Int)) = true := decide_eq_true t2i
            have hgo := HG.out
            rw [if_pos t2] at hgo
            have HA := Lib.hid hgo
            clear hgo
            go_wp2_with fail
            go_roundw
            case measure => simp [intOf]; omega
            exact ⟨j + 1, V, A, nl, cl, l, by omega, by simp, rfl, by omega, rfl, HS.out.1, by omega, HA.out, HS.out.2.1⟩
          have t2i : ¬ (128 : Int) ≤ X0 := by omega
          have t2d : decide ((128 : Int) ≤ (X0 : Int)) = false := decide_eq_false t2i
          have hgo := HG.out
          rw [if_neg t2] at hgo
          have HG := Lib.hid hgo
          clear hgo
          have hw1 : w1.heap.size ≤ wr.heap.size := HS.out.2.1.size
          by_cases t3 : nl = 0
          · subst t3
            obtain rfl : l = [] := List.eq_nil_of_length_eq_zero hln.out.symm
            have hgo := HG.out
            rw [if_pos rfl] at hgo
            obtain ⟨q, hq⟩ : ∃ q, V / 40 = q := ⟨_, rfl⟩
            rw [hq] at hgo
            have hq1 : (V : Int).tdiv 40 = (q : Int) := by rw [Int.tdiv_eq_ediv_of_nonneg (by omega)]; omega
            go_upto_region 13 with fail
            clear hwr ho ha
            have hqb : (q : Int) < 1000000000000 := by omega
            by_cases hq2 : 2 < q
            · have t5i : (2 : Int) < q := by omega
              have t5d : decide ((2 : Int) < (q : Int)) = true := decide_eq_true t5i
              have t5n : ¬ ((q : Int) ≤ 2) := by omega
              rw [Nat.min_eq_right (by omega)] at hgo
              obtain ⟨V2, hV2⟩ : ∃ V2, V - 40 * 2 = V2 := ⟨_, rfl⟩
              rw [hV2] at hgo
              have hV2i : (V : Int) - 80 = V2 := by omega
              have t4 : ¬ 268435456 < V2 := by omega
              have t4i : ¬ (268435456 : Int) < V2 := by omega
              have t4d : decide ((268435456 : Int) < (V2 : Int)) = false := decide_eq_false t4i
              rw [if_neg t4] at hgo
              have HA := Lib.hid hgo
              have hmn := min_big hq2 hqb
              clear hgo HG hq hV2
              go_wp2_with (at_builtin; first | (go_loud (refine wp_appE Try.eI (.tmp 40) (.tmp 42) w1.heap.size (.slice A 0 cl) [] (HS.out.1.below ((Below.refl _ _).alloc (Nat.le_refl _) _)) (by simp; omega) (some ⟨wr.heap.size, 0, none⟩) 1 1 [2] (Blk.rdC Try.eI (Blk.new _ _ _) rfl) (fun h => by cases h) (by simp) rfl rfl rfl rfl ?_; intro A5 n5 c5 w5 hG; have H5 := Lib.hid (And.intro hG (And.intro ((HS.out.2.1.alloc hw1 _).trans hG.below) hG.own.len)); clear hG)) | (go_loud (refine wp_appE Try.eI (.tmp 50) (.tmp 52) w1.heap.size (.slice A5 n5 c5) _ (H5.out.1.own.below ((Below.refl _ _).alloc (Nat.le_refl _) _)) (by have := H5.out.2.1.size; simp; omega) (some ⟨w5.heap.size, 0, none⟩) 1 1 [(V2 : Int)] (Blk.rdC Try.eI (Blk.new _ _ _) rfl) (fun h => by cases h) (by simp) rfl rfl rfl rfl ?_; intro A6 n6 c6 w6 hG; have H6 := Lib.hid hG; clear hG)))
              go_roundw
              case measure => simp [intOf]; omega
              exact ⟨j + 1, 0, A6, n6, c6, [2, (V2 : Int)], by omega, by simp, rfl, by omega, rfl, H6.out.own, by have h9 := H6.out.own.len; simp at h9; omega, HA.out, (H5.out.2.1.alloc (by have := H5.out.2.1.size; omega) _).trans H6.out.below⟩
            · have t5i : ¬ (2 : Int) < q := by omega
              have t5d : decide ((2 : Int) < (q : Int)) = false := decide_eq_false t5i
              have t5n : (q : Int) ≤ 2 := by omega
              rw [Nat.min_eq_left (by omega)] at hgo
              obtain ⟨V2, hV2⟩ : ∃ V2, V - 40 * q = V2 := ⟨_, rfl⟩
              rw [hV2] at hgo
              have hV2i : (V : Int) - 40 * (q : Int) = V2 := by omega
              have t4 : ¬ 268435456 < V2 := by omega
              have t4i : ¬ (268435456 : Int) < V2 := by omega
              have t4d : decide ((268435456 : Int) < (V2 : Int)) = false := decide_eq_false t4i
              rw [if_neg t4] at hgo
              have HA := Lib.hid hgo
              have hmn := min_small (by omega) hqb
              clear hgo HG hq hV2
              go_wp2_with (at_builtin; first | (go_loud (refine wp_appE Try.eI (.tmp 40) (.tmp 42) w1.heap.size (.slice A 0 cl) [] (HS.out.1.below ((Below.refl _ _).alloc (Nat.le_refl _) _)) (by simp; omega) (some ⟨wr.heap.size, 0, none⟩) 1 1 [(q : Int)] (Blk.rdC Try.eI (Blk.new _ _ _) rfl) (fun h => by cases h) (by simp) rfl rfl rfl rfl ?_; intro A5 n5 c5 w5 hG; have H5 := Lib.hid (And.intro hG (And.intro ((HS.out.2.1.alloc hw1 _).trans hG.below) hG.own.len)); clear hG)) | (go_loud (refine wp_appE Try.eI (.tmp 50) (.tmp 52) w1.heap.size (.slice A5 n5 c5) _ (H5.out.1.own.below ((Below.refl _ _).alloc (Nat.le_refl _) _)) (by have := H5.out.2.1.size; simp; omega) (some ⟨w5.heap.size, 0, none⟩) 1 1 [(V2 : Int)] (Blk.rdC Try.eI (Blk.new _ _ _) rfl) (fun h => by cases h) (by simp) rfl rfl rfl rfl ?_; intro A6 n6 c6 w6 hG; have H6 := Lib.hid hG; clear hG)))
              go_roundw
              case measure => simp [intOf]; omega
              exact ⟨j + 1, 0, A6, n6, c6, [(q : Int), (V2 : Int)], by omega, by simp, rfl, by omega, rfl, H6.out.own, by have h9 := H6.out.own.len; simp at h9; omega, HA.out, (H5.out.2.1.alloc (by have := H5.out.2.1.size; omega) _).trans H6.out.below⟩
          · have t3i : ¬ ((nl : Int) = 0) := by omega
            have t3d : ((nl : Int) == 0) = false := by simpa using t3
            have hlne : l ≠ [] := fun e => by subst e; have := hln.out; simp at this; omega
            have hgo := HG.out
            rw [if_neg hlne] at hgo
            have HG := Lib.hid hgo
            clear hgo
            by_cases t4 : 268435456 < V
            · have t4i : (268435456 : Int) < V := by omega
              have t4d : decide ((268435456 : Int) < (V : Int)) = true := decide_eq_true t4i
              have hgo := HG.out
              rw [if_pos t4] at hgo
              have HA := Lib.hid hgo.symm
              clear hgo
              go_wp2_with fail
              go_ret2
              rw [HA.out]
              exact ⟨rfl, by first | exact HS.out.2.2 | (rw [← hX]; exact HS.out.2.2)⟩
            · have t4i : ¬ (268435456 : Int) < V := by omega
              have t4d : decide ((268435456 : Int) < (V : Int)) = false := decide_eq_false t4i
              have hgo := HG.out
              rw [if_neg t4] at hgo
              have HA := Lib.hid hgo
              clear hgo
              go_wp2_with (at_builtin; go_loud (refine wp_appE Try.eI (.tmp 50) (.tmp 52) w1.heap.size (.slice A nl cl) l (HS.out.1.below ((Below.refl _ _).alloc (Nat.le_refl _) _)) (by simp; omega) (some ⟨wr.heap.size, 0, none⟩) 1 1 [(V : Int)] (Blk.rdC Try.eI (Blk.new _ _ _) rfl) (fun h => by cases h) (by have := hln.out; simp; omega) rfl rfl rfl rfl ?_; intro A6 n6 c6 w6 hG; have H6 := Lib.hid hG; clear hG))
              go_roundw
              case measure => simp [intOf]; omega
              exact ⟨j + 1, 0, A6, n6, c6, l ++ [(V : Int)], by omega, by simp, rfl, by omega, rfl, H6.out.own, by have h9 := H6.out.own.len; have := hln.out; simp at h9; omega, HA.out, (HS.out.2.1.alloc hw1 _).trans H6.out.below⟩
        · obtain rfl : j = m1 := by omega
          have hi : ¬ (j : Int) < j := by omega
          have hd : decide ((j : Int) < (j : Int)) = false := decide_eq_false hi
          rw [List.drop_of_length_le (by have := HB.out.2.2.2; omega)] at hgo
          unfold arcsGo at hgo
          have HS := Lib.hid (And.intro hO (And.intro hBw hgo.symm))
          clear hO hB hBw hgo
          go_wp2_with fail
          go_ret2
          rw [HS.out.2.2]
          exact ⟨⟨A, nl, cl, rfl, HS.out.1.mono (by have := H1.out.2.size; omega)⟩, by first | exact HS.out.2.1 | (rw [← hX]; exact HS.out.2.1)⟩
  · have h2d : (tag == 6) = false := by simp [h2]
    have HN := Lib.hid (show ans = none by rw [← HANS.out, decide_eq_false h2]; rfl)
    clear hc
    go_enter Try.func25, Try.ntmps25
    go_wp2_with fail
    try rw [hX]
    try rw [hwA]
    go_wp2_with fail
    go_ret2
    rw [HN.out]
    exact ⟨rfl, by first | exact HB.out.1 | (rw [← hX]; exact HB.out.1)⟩
end Go.Proofs.Ytgkhhinjdojbhaa
