/-
  DER: the reference's Arcs.
-/
import Derived.Test.YtgkhhinjdojbhaaRn6
import Derived.Test.YtgkhhinjdojbhaaDer22
namespace Go.Proofs.Ytgkhhinjdojbhaa
open Go.RowKit

/-- What is behind the store into a block made anew. -/
theorem boxedN {w1 w2 : World} {N : Nat} {o : Obj} (hN : w1.heap.size = N) (hT : Turn [N] (w1.alloc o) w2) : Below w1.heap.size w1 w2 :=
  below_turn ((Below.refl _ _).alloc (Nat.le_refl _) _) hT (fun t ht => by simp at ht; omega) (by simp)
/-- The arcs as the reference gathers them. -/
def refGo : List UInt8 → Nat → List Int → Option (List Int)
  | [], _, l => some l
  | x :: r, v, l =>
    if 268435536 < v * 128 + x.toNat % 128 then none
    else if 128 ≤ x.toNat then refGo r (v * 128 + x.toNat % 128) l
    else if l = [] then refGo r 0 [((min ((v * 128 + x.toNat % 128) / 40) 2 : Nat) : Int), ((v * 128 + x.toNat % 128 - 40 * min ((v * 128 + x.toNat % 128) / 40) 2 : Nat) : Int)]
    else refGo r 0 (l ++ [((v * 128 + x.toNat % 128 : Nat) : Int)])
def arcsFin (l : List Int) : Option (List Int) := if oidOk l then some l else none
theorem oidOk_bad {l : List Int} {a : Int} (h : a ∈ l) (ha : arcOk a = false) : oidOk l = false := by
  unfold oidOk
  cases hh : l.all arcOk with
  | false => rw [Bool.and_false]
  | true => rw [List.all_eq_true.1 hh a h] at ha; cases ha
theorem oidOk_snoc {l : List Int} {a : Int} (h : oidOk l = true) : oidOk (l ++ [a]) = arcOk a := by
  unfold oidOk at h ⊢
  rw [Bool.and_eq_true] at h
  obtain ⟨h1, h2⟩ := h
  have h3 : oidHead (l ++ [a]) = true := by
    unfold oidHead at h1 ⊢
    match l, h1 with
    | x :: y :: r, h1 => simpa using h1
  rw [h3, List.all_append, h2]; simp
theorem oidOk_two (V : Nat) : oidOk [((min (V / 40) 2 : Nat) : Int), ((V - 40 * min (V / 40) 2 : Nat) : Int)] = decide (V - 40 * min (V / 40) 2 ≤ 268435456) := by
  unfold oidOk oidHead arcOk
  simp only [List.length_cons, List.length_nil, List.getD_cons_zero, List.getD_cons_succ, List.all_cons, List.all_nil, Bool.and_true]
  rcases Nat.lt_or_ge (V / 40) 2 with h | h
  · rw [Nat.min_eq_left (by omega)]
    have h0 : V - 40 * (V / 40) ≤ 39 := by omega
    obtain ⟨q, hq⟩ : ∃ q, V / 40 = q := ⟨_, rfl⟩
    rw [hq] at h h0 ⊢
    obtain ⟨r, hr⟩ : ∃ r, V - 40 * q = r := ⟨_, rfl⟩
    rw [hr] at h0 ⊢
    have e1 : decide ((q : Int) ≤ 2) = true := decide_eq_true (by omega)
    have e2 : decide ((r : Int) ≤ 39) = true := decide_eq_true (by omega)
    have e3 : decide ((0 : Int) ≤ q) = true := decide_eq_true (by omega)
    have e4 : decide ((q : Int) ≤ 268435456) = true := decide_eq_true (by omega)
    have e5 : decide ((0 : Int) ≤ r) = true := decide_eq_true (by omega)
    have e6 : decide ((r : Int) ≤ 268435456) = true := decide_eq_true (by omega)
    have e7 : decide (r ≤ 268435456) = true := decide_eq_true (by omega)
    rw [e1, e2, e3, e4, e5, e6, e7]; simp
  · rw [Nat.min_eq_right (by omega)]
    obtain ⟨r, hr⟩ : ∃ r, V - 40 * 2 = r := ⟨_, rfl⟩
    rw [hr]
    have e5 : decide ((0 : Int) ≤ r) = true := decide_eq_true (by omega)
    have e6 : decide ((r : Int) ≤ 268435456) = decide (r ≤ 268435456) := by by_cases h : r ≤ 268435456 <;> simp [h] <;> omega
    rw [e5, e6]
    simp
theorem refGo_bad : ∀ (r : List UInt8) (v : Nat) (l l' : List Int), (∃ a ∈ l, arcOk a = false) → refGo r v l = some l' → ∃ a ∈ l', arcOk a = false
  | [], v, l, l', hb, h => by unfold refGo at h; injection h with h; subst h; exact hb
  | x :: r, v, l, l', hb, h => by
    unfold refGo at h
    split at h
    · cases h
    · split at h
      · exact refGo_bad r _ l l' hb h
      · split at h
        · rename_i hl
          subst hl
          obtain ⟨a, ha, _⟩ := hb
          cases ha
        · obtain ⟨a, ha, hk⟩ := hb
          exact refGo_bad r _ _ l' ⟨a, by simp [ha], hk⟩ h
theorem refGo_bad_fin {r : List UInt8} {v : Nat} {l : List Int} (hb : ∃ a ∈ l, arcOk a = false) : (refGo r v l).bind (fun l' => if l' = [] ∨ oidOk l' = true then some l' else none) = none := by
  cases h : refGo r v l with
  | none => rfl
  | some l' =>
    obtain ⟨a, ha, hk⟩ := refGo_bad r v l l' hb h
    rw [Option.bind_some, if_neg]
    rintro (h1 | h1)
    · subst h1; cases ha
    · rw [oidOk_bad ha hk] at h1; cases h1
theorem refGo_spec : ∀ (r : List UInt8) (v : Nat) (l : List Int), (l = [] ∨ oidOk l = true) → arcsGo r v l = (refGo r v l).bind (fun l' => if l' = [] ∨ oidOk l' = true then some l' else none)
  | [], v, l, hl => by unfold arcsGo refGo; rw [Option.bind_some, if_pos hl]
  | x :: r, v, l, hl => by
    unfold arcsGo refGo
    obtain ⟨V, hV⟩ : ∃ V, v * 128 + x.toNat % 128 = V := ⟨_, rfl⟩
    rw [hV]
    by_cases h1 : 268435536 < V
    · rw [if_pos h1, if_pos h1]; rfl
    · rw [if_neg h1, if_neg h1]
      by_cases h2 : 128 ≤ x.toNat
      · rw [if_pos h2, if_pos h2]; exact refGo_spec r V l hl
      · rw [if_neg h2, if_neg h2]
        by_cases h3 : l = []
        · rw [if_pos h3, if_pos h3]
          have h4 := oidOk_two V
          by_cases h5 : 268435456 < V - 40 * min (V / 40) 2
          · rw [if_pos h5, refGo_bad_fin ⟨((V - 40 * min (V / 40) 2 : Nat) : Int), by simp, by unfold arcOk; rw [Bool.and_eq_false_iff]; exact .inr (decide_eq_false (by omega))⟩]
          · rw [if_neg h5]
            exact refGo_spec r 0 _ (.inr (by rw [h4, decide_eq_true (by omega)]))
        · rw [if_neg h3, if_neg h3]
          have hok : oidOk l = true := hl.resolve_left h3
          have h4 := oidOk_snoc (a := (V : Int)) hok
          by_cases h5 : 268435456 < V
          · rw [if_pos h5, refGo_bad_fin ⟨(V : Int), by simp, by unfold arcOk; rw [Bool.and_eq_false_iff]; exact .inr (decide_eq_false (by omega))⟩]
          · rw [if_neg h5]
            exact refGo_spec r 0 _ (.inr (by rw [h4]; unfold arcOk; rw [decide_eq_true (by omega), decide_eq_true (by omega)]; rfl))
theorem refGo_ne : ∀ (b : List UInt8) (bg : Bool) (v : Nat) (l l' : List Int), nameGo bg b = some true → (b ≠ [] ∨ l ≠ []) → refGo b v l = some l' → l' ≠ []
  | [], bg, v, l, l', hn, hb, h => by
    unfold refGo at h; injection h with h; subst h; exact hb.resolve_left (fun h => h rfl)
  | x :: r, bg, v, l, l', hn, hb, h => by
    unfold nameGo at hn
    split at hn
    · cases hn
    · unfold refGo at h
      split at h
      · cases h
      · split at h
        · rename_i h2
          refine refGo_ne r _ _ l l' hn (.inl fun e => ?_) h
          subst e
          unfold nameGo at hn
          injection hn with hn
          have h3 : x < 128 := of_decide_eq_true hn
          rw [UInt8.lt_iff_toNat_lt] at h3
          have h4 : (128 : UInt8).toNat = 128 := rfl
          omega
        · split at h
          · exact refGo_ne r _ _ _ l' hn (.inr (by simp)) h
          · exact refGo_ne r _ _ _ l' hn (.inr (by simp)) h
theorem ref_arcs (n : Nd) : n.arcs = if decide (n.tag = 6) && n.may then (refGo n.b 0 []).bind arcsFin else none := by
  unfold Nd.arcs
  cases hc : decide (n.tag = 6) && n.may with
  | false => rfl
  | true =>
    rw [Bool.and_eq_true, decide_eq_true_eq] at hc
    obtain ⟨ht, hm⟩ := hc
    simp only [if_true]
    rw [refGo_spec n.b 0 [] (.inl rfl)]
    cases hg : refGo n.b 0 [] with
    | none => rfl
    | some l' =>
      rw [Option.bind_some, Option.bind_some]
      have hok := Nd.may_ok hm
      have hne : l' ≠ [] := by
        obtain ⟨t, b, ks⟩ := n
        simp only [Nd.tag] at ht
        subst ht
        rcases Nd.ok_cases hok with ⟨h1, _⟩ | ⟨_, _, h2⟩
        · omega
        · have h3 : nameOk b = true := by
            have h4 : plainOk 6 b = nameOk b := rfl
            rw [← h4]; exact h2
          unfold nameOk at h3
          cases h5 : nameGo true b with
          | none => rw [h5] at h3; cases h3
          | some e =>
            rw [h5] at h3
            simp only [Bool.and_eq_true, decide_eq_true_eq] at h3
            rw [h3.2] at h5
            exact refGo_ne b true 0 [] l' h5 (.inl (fun e => by subst e; simp at h3)) hg
      unfold arcsFin
      by_cases h6 : oidOk l' = true
      · rw [if_pos (.inr h6), if_pos h6]
      · rw [if_neg (by rintro (h | h); exact hne h; exact h6 h), if_neg h6]
set_option maxRecDepth 100000 in
set_option maxHeartbeats 8000000 in
theorem rarcs_any (P : Nat → Prop) (Z : NF → Prop) (n : Nd) (f : NF) (w : World) (hN : NdR P Z w f n) (hP : ∀ b, P b → b < w.heap.size) (hl : n.b.length ≤ 400) :
    Calls Try.prog 26 #[f.val] w fun e w' => ArcsPost w w' e n.arcs ∧ Below w.heap.size w w' := by
  obtain ⟨X, hX⟩ : ∃ X, w.heap.size = X := ⟨_, rfl⟩
  obtain ⟨tag, A1, m1, c1, A2, m2, c2⟩ := f
  obtain ⟨wA, hwA⟩ : ∃ wA, w.alloc (.cells #[.int .i64 tag, .slice A1 m1 c1, .slice A2 m2 c2] 25) = wA := ⟨_, rfl⟩
  have bA : Blk wA X 25 #[.int .i64 tag, .slice A1 m1 c1, .slice A2 m2 c2] := by rw [← hwA, ← hX]; exact Blk.new _ _ _
  have hbA : Below w.heap.size w wA := by rw [← hwA]; exact (Below.refl _ _).alloc (Nat.le_refl _) _
  obtain ⟨g0, g1, g2⟩ : wA.cell? ⟨X, 0, none⟩ = some (.int .i64 tag) ∧ wA.cell? ⟨X, 1, none⟩ = some (.slice A1 m1 c1) ∧ wA.cell? ⟨X, 2, none⟩ = some (.slice A2 m2 c2) := by rw [bA.cell, bA.cell, bA.cell]; exact ⟨rfl, rfl, rfl⟩
  have hPA : ∀ b, P b → b < wA.heap.size := fun b hb => by have := hP b hb; have := hbA.size; omega
  have hNA := hN.bel hbA hP
  obtain ⟨htag, hbs⟩ : n.tag = tag ∧ Rd wA A1 m1 c1 n.b := by
    cases hNA with
    | mk _ bs fs ks hb => exact ⟨rfl, hb⟩
  have hc := refMay_any P Z n ⟨tag, A1, m1, c1, A2, m2, c2⟩ wA hNA hPA
  obtain ⟨ans, hans⟩ : ∃ ans, n.arcs = ans := ⟨_, rfl⟩
  rw [hans]
  rw [ref_arcs] at hans
  rw [htag] at hans
  obtain ⟨mv, hmv⟩ : ∃ mv, n.may = mv := ⟨_, rfl⟩
  rw [hmv] at hc hans
  have hlb := hbs.1
  have hm1 : m1 ≤ 400 := by omega
  have HB := Lib.hid (And.intro hbA (And.intro bA (And.intro hbs hlb)))
  obtain ⟨bs, hbe⟩ : ∃ bs, n.b = bs := ⟨_, rfl⟩
  rw [hbe] at HB hans
  have HANS := Lib.hid hans
  clear hbA bA hN hNA hPA hmv htag hbs hlb hans hbe hl
  simp only [NF.val] at hc ⊢
  by_cases h2 : tag = 6
  · subst h2
    go_enter Try.func26, Try.ntmps26
    go_wp2_with fail
    try rw [hX]
    try rw [hwA]
    go_wp2_with fail
    refine hc.mono ?_
    rintro e w1 ⟨rfl, hb1⟩
    have H1 := Lib.hid (And.intro (HB.out.2.2.1.below hb1) (HB.out.1.trans (hb1.mono HB.out.1.size)))
    obtain ⟨q0, q1, q2⟩ : w1.cell? ⟨X, 0, none⟩ = some (.int .i64 6) ∧ w1.cell? ⟨X, 1, none⟩ = some (.slice A1 m1 c1) ∧ w1.cell? ⟨X, 2, none⟩ = some (.slice A2 m2 c2) := by rw [(HB.out.2.1.below hb1).cell, (HB.out.2.1.below hb1).cell, (HB.out.2.1.below hb1).cell]; exact ⟨rfl, rfl, rfl⟩
    have hX1 : X < w1.heap.size := Nat.lt_of_lt_of_le HB.out.2.1.lt hb1.size
    clear hb1 hc
    cases mv with
    | false =>
      have HN := Lib.hid (show ans = none from HANS.out.symm)
      go_wp2_with fail
      go_ret2
      rw [HN.out]
      exact ⟨rfl, by first | exact H1.out.2 | (rw [← hX]; exact H1.out.2)⟩
    | true =>
      obtain ⟨res, hres⟩ : ∃ res, refGo bs 0 [] = res := ⟨_, rfl⟩
      have HN := Lib.hid (And.intro hres (show res.bind arcsFin = ans by rw [← hres]; exact HANS.out))
      have BX1 := Lib.hid (And.intro q0 (And.intro q1 q2))
      clear hres
      go_wp2_with fail
      clear q0 q1 q2
      go_loopw [4, 5, 6] (fun ll vv kk wr => ∃ (j v : Nat) (A : Option Addr) (nl cl : Nat) (l : List Int), j ≤ m1 ∧ kk = .int .i64 (j : Int) ∧ vv = .int .i64 (v : Int) ∧ v ≤ 268435536 ∧ ll = .slice A nl cl ∧ OwnE Try.eI wr w1.heap.size (.slice A nl cl) l ∧ nl ≤ 2 * j ∧ refGo (bs.drop j) v l = res ∧ Below w1.heap.size w1 wr) (fun _ _ kk _ => m1 - (intOf kk).toNat)
      case atStart => exact ⟨0, 0, none, 0, 0, [], by omega, rfl, rfl, by omega, rfl, OwnE.nil _ _, by omega, HN.out.1, Below.refl _ _⟩
      case round =>
        obtain ⟨j, v, A, nl, cl, l, hj, rfl, rfl, hv, rfl, hO, hnl, hgo, hB⟩ := hrel
        have hBw : Below w.heap.size w wr := H1.out.2.trans (hB.mono H1.out.2.size)
        have q1 := (hB.cell (p := ⟨X, 1, none⟩) hX1).trans BX1.out.2.1
        by_cases hlt : j < m1
        · have hi : (j : Int) < m1 := by omega
          have hd : decide ((j : Int) < (m1 : Int)) = true := decide_eq_true hi
          have hj0 : ¬ ((j : Int) < 0) := by omega
          obtain ⟨g, off, hAe, hat⟩ := (H1.out.1.below hB).addr (by omega)
          subst hAe
          obtain ⟨x, hx⟩ : ∃ x, bs[j]? = some x := ⟨_, List.getElem?_eq_getElem (by have := HB.out.2.2.2; omega)⟩
          have cx := hat.2 j x hx
          unfold B at cx
          obtain ⟨hjl, hxe⟩ := List.getElem?_eq_some_iff.1 hx
          rw [List.drop_eq_getElem_cons hjl, hxe] at hgo
          unfold refGo at hgo
          have hxl := x.toNat_lt
          obtain ⟨X0, hX0⟩ : ∃ X0, x.toNat = X0 := ⟨_, rfl⟩
          rw [hX0] at cx hgo hxl
          obtain ⟨r, hr⟩ : ∃ r, X0 % 128 = r := ⟨_, rfl⟩
          have ha : (X0 : Int).tmod 128 = (r : Int) := by rw [Int.tmod_eq_emod_of_nonneg (by omega)]; omega
          rw [hr] at hgo
          have hr2 : r < 128 := by omega
          have hwr : Value.int IntKind.i64 (wrap64 (r : Int)) = Value.int IntKind.i64 (r : Int) := congrArg _ (wrap64_nat (by omega))
          obtain ⟨V, hV⟩ : ∃ V, v * 128 + r = V := ⟨_, rfl⟩
          rw [hV] at hgo
          have hVb : (V : Int) ≤ 34359748800 := arc_le hv hr2 hV
          have ho : 128 * (v : Int) + (r : Int) = (V : Int) := by omega
          have hov : IntKind.i64.wrap (128 * (v : Int)) = 128 * (v : Int) := IntWalk.i64_in _ (by omega)
          have hoV : IntKind.i64.wrap (V : Int) = (V : Int) := IntWalk.i64_in _ (by omega)
          have hln := Lib.hid hO.len
          have HS := Lib.hid (And.intro hO (And.intro hB hBw))
          have HG := Lib.hid hgo
          clear hO hB hBw hgo hx hjl hxe hX0 hat hr hV
          by_cases t1 : 268435536 < V
          · have t1i : (268435536 : Int) < V := by omega
            have t1d : decide ((268435536 : Int) < (V : Int)) = true := decide_eq_true t1i
            have hgo := HG.out
            rw [if_pos t1] at hgo
            have HA := Lib.hid (show ans = none by rw [← HN.out.2, ← hgo]; rfl)
            clear hgo
            go_wp2_with fail
            go_ret2
            rw [HA.out]
            exact ⟨rfl, by first | exact HS.out.2.2 | (rw [← hX]; exact HS.out.2.2)⟩
          have t1i : ¬ (268435536 : Int) < V := by omega
          have t1d : decide ((268435536 : Int) < (V : Int)) = false := decide_eq_false t1i
          have hgo := HG.out
          rw [if_neg t1] at hgo
          have HG := Lib.hid hgo
          clear hgo
          by_cases t2 : 128 ≤ X0
          · have t2i : (128 : Int) ≤ X0 := by omega
            have t2d : decide ((128 : Int) ≤ (X0 : Int)) = true := decide_eq_true t2i
            have hgo := HG.out
            rw [if_pos t2] at hgo
            have HA := Lib.hid hgo
            clear hgo
            go_wp2_with fail
            go_roundw
            case measure => simp [intOf]; omega
            exact ⟨j + 1, V, A, nl, cl, l, by omega, by simp, rfl, by omega, rfl, HS.out.1, by omega, HA.out, HS.out.2.1⟩
          have t2i : ¬ (128 : Int) ≤ X0 := by omega
          have t2d : decide ((128 : Int) ≤ (X0 : Int)) = false := decide_eq_false t2i
          have hgo := HG.out
          rw [if_neg t2] at hgo
          have HG := Lib.hid hgo
          clear hgo
          have hw1 : w1.heap.size ≤ wr.heap.size := HS.out.2.1.size
          by_cases t3 : nl = 0
          · subst t3
            obtain rfl : l = [] := List.eq_nil_of_length_eq_zero hln.out.symm
            have hgo := HG.out
            rw [if_pos rfl] at hgo
            obtain ⟨q, hq⟩ : ∃ q, V / 40 = q := ⟨_, rfl⟩
            rw [hq] at hgo
            have hq1 : (V : Int).tdiv 40 = (q : Int) := by rw [Int.tdiv_eq_ediv_of_nonneg (by omega)]; omega
            have hqb : (q : Int) < 1000000000000 := by omega
            by_cases hq2 : 2 < q
            · have t5i : (2 : Int) < q := by omega
              have t5d : decide ((2 : Int) < (q : Int)) = true := decide_eq_true t5i
              rw [Nat.min_eq_right (by omega)] at hgo
              obtain ⟨V2, hV2⟩ : ∃ V2, V - 40 * 2 = V2 := ⟨_, rfl⟩
              rw [hV2] at hgo
              have hV2i : (V : Int) - 80 = V2 := by omega
              have hV2w : IntKind.i64.wrap (V2 : Int) = V2 := IntWalk.i64_in _ (by omega)
              have HA := Lib.hid hgo
              clear hgo HG hq hV2
              go_wp2_with (at_builtin; first | (go_loud (refine wp_appE Try.eI (.tmp 50) (.tmp 52) w1.heap.size (.slice A 0 cl) [] (HS.out.1.below ((Below.refl _ _).alloc (Nat.le_refl _) _)) (by simp; omega) (some ⟨wr.heap.size, 0, none⟩) 1 1 [2] (Blk.rdC Try.eI (Blk.new _ _ _) rfl) (fun h => by cases h) (by simp) rfl rfl rfl rfl ?_; intro A5 n5 c5 w5 hG; have H5 := Lib.hid (And.intro hG (And.intro ((HS.out.2.1.alloc hw1 _).trans hG.below) hG.below.size)); clear hG)) | (go_loud (refine wp_appE Try.eI (.tmp 58) (.tmp 60) w1.heap.size (.slice A5 n5 c5) ([] ++ [2]) (H5.out.1.own.below ((Below.refl _ _).alloc (Nat.le_refl _) _)) (by have := H5.out.2.1.size; simp; omega) (some ⟨w5.heap.size, 0, none⟩) 1 1 [(V2 : Int)] (Blk.rdC Try.eI (Blk.new _ _ _) rfl) (fun h => by cases h) (by simp) rfl rfl rfl rfl ?_; intro A6 n6 c6 w6 hG; have H6 := Lib.hid hG; clear hG)))
              go_roundw
              case measure => simp [intOf]; omega
              exact ⟨j + 1, 0, A6, n6, c6, [2, (V2 : Int)], by omega, by simp, rfl, by omega, rfl, H6.out.own, by have h9 := H6.out.own.len; simp at h9; omega, HA.out, (H5.out.2.1.alloc (by have := H5.out.2.1.size; omega) _).trans H6.out.below⟩
            · have t5i : ¬ (2 : Int) < q := by omega
              have t5d : decide ((2 : Int) < (q : Int)) = false := decide_eq_false t5i
              rw [Nat.min_eq_left (by omega)] at hgo
              obtain ⟨V2, hV2⟩ : ∃ V2, V - 40 * q = V2 := ⟨_, rfl⟩
              rw [hV2] at hgo
              have hV2i : (V : Int) - 40 * (q : Int) = V2 := by omega
              have hV2w : IntKind.i64.wrap (V2 : Int) = V2 := IntWalk.i64_in _ (by omega)
              have h40 : IntKind.i64.wrap (40 * (q : Int)) = 40 * (q : Int) := IntWalk.i64_in _ (by omega)
              have HA := Lib.hid hgo
              clear hgo HG hq hV2
              go_wp2_with (at_builtin; first | (go_loud (refine wp_appE Try.eI (.tmp 50) (.tmp 52) w1.heap.size (.slice A 0 cl) [] (HS.out.1.below ((Below.refl _ _).alloc (Nat.le_refl _) _)) (by simp; omega) (some ⟨wr.heap.size, 0, none⟩) 1 1 [(q : Int)] (Blk.rdC Try.eI (Blk.new _ _ _) rfl) (fun h => by cases h) (by simp) rfl rfl rfl rfl ?_; intro A5 n5 c5 w5 hG; have H5 := Lib.hid (And.intro hG (And.intro ((HS.out.2.1.alloc hw1 _).trans hG.below) hG.below.size)); clear hG)) | (go_loud (refine wp_appE Try.eI (.tmp 58) (.tmp 60) w1.heap.size (.slice A5 n5 c5) ([] ++ [(q : Int)]) (H5.out.1.own.below ((Below.refl _ _).alloc (Nat.le_refl _) _)) (by have := H5.out.2.1.size; simp; omega) (some ⟨w5.heap.size, 0, none⟩) 1 1 [(V2 : Int)] (Blk.rdC Try.eI (Blk.new _ _ _) rfl) (fun h => by cases h) (by simp) rfl rfl rfl rfl ?_; intro A6 n6 c6 w6 hG; have H6 := Lib.hid hG; clear hG)))
              go_roundw
              case measure => simp [intOf]; omega
              exact ⟨j + 1, 0, A6, n6, c6, [(q : Int), (V2 : Int)], by omega, by simp, rfl, by omega, rfl, H6.out.own, by have h9 := H6.out.own.len; simp at h9; omega, HA.out, (H5.out.2.1.alloc (by have := H5.out.2.1.size; omega) _).trans H6.out.below⟩
          · have t3i : ¬ ((nl : Int) = 0) := by omega
            have t3d : ((nl : Int) == 0) = false := by simpa using t3
            have hlne : l ≠ [] := fun e => by subst e; have := hln.out; simp at this; omega
            have hgo := HG.out
            rw [if_neg hlne] at hgo
            have HG := Lib.hid hgo
            clear hgo
            go_wp2_with (at_builtin; go_loud (refine wp_appE Try.eI (.tmp 58) (.tmp 60) w1.heap.size (.slice A nl cl) l (HS.out.1.below ((Below.refl _ _).alloc (Nat.le_refl _) _)) (by simp; omega) (some ⟨wr.heap.size, 0, none⟩) 1 1 [(V : Int)] (Blk.rdC Try.eI (Blk.new _ _ _) rfl) (fun h => by cases h) (by have := hln.out; simp; omega) rfl rfl rfl rfl ?_; intro A6 n6 c6 w6 hG; have H6 := Lib.hid hG; clear hG))
            go_roundw
            case measure => simp [intOf]; omega
            exact ⟨j + 1, 0, A6, n6, c6, l ++ [(V : Int)], by omega, by simp, rfl, by omega, rfl, H6.out.own, by have h9 := H6.out.own.len; have := hln.out; simp at h9; omega, HG.out, (HS.out.2.1.alloc hw1 _).trans H6.out.below⟩
        · obtain rfl : j = m1 := by omega
          have hi : ¬ (j : Int) < j := by omega
          have hd : decide ((j : Int) < (j : Int)) = false := decide_eq_false hi
          rw [List.drop_of_length_le (by have := HB.out.2.2.2; omega)] at hgo
          unfold refGo at hgo
          have hfin : ans = arcsFin l := by rw [← HN.out.2, ← hgo]; rfl
          have hro := roid_any A nl cl l wr hO.rd (by omega)
          have HS := Lib.hid (And.intro hO (And.intro hBw (And.intro hfin (show w.heap.size ≤ w1.heap.size from H1.out.2.size))))
          clear hO hB hBw hgo hfin
          unfold arcsFin at HS
          obtain ⟨ok, hok⟩ : ∃ ok, oidOk l = ok := ⟨_, rfl⟩
          rw [hok] at hro HS
          clear hok
          go_wp2_with fail
          refine hro.mono ?_
          rintro e w2 ⟨hp, hb2⟩
          clear hro
          obtain ⟨N1, hN1s⟩ : ∃ N1, w2.heap.size = N1 := ⟨_, rfl⟩
          have bZ : Blk (w2.alloc (.cells #[.int .i64 0, .slice none 0 0, .slice none 0 0] 25)) N1 25 #[.int .i64 0, .slice none 0 0, .slice none 0 0] := by rw [← hN1s]; exact Blk.new _ _ _
          have HZ := Lib.hid (And.intro bZ (And.intro (HS.out.1.below hb2) (HS.out.2.1.trans (hb2.mono HS.out.2.1.size))))
          clear bZ hb2 q1
          cases ok with
          | false =>
            obtain rfl := hp
            simp only [NF.val, zNF]
            go_upto_region 21 with (refine wpList_store_arr rfl 25 (.tmp 8) (.tmp 65) rfl N1 25 _ [.int .i64 0, .slice none 0 0, .slice none 0 0] HZ.out.1 rfl rfl (by kernel_rfl) rfl rfl ?_; intro w3 hB3 hT3; have H3b := Lib.hid (And.intro hB3 hT3); clear hB3 hT3)
            try simp only [Act.put]
            have hb3 := boxedN hN1s H3b.out.2
            have H3 := Lib.hid (HZ.out.2.2.trans (hb3.mono HZ.out.2.2.size))
            clear hb3 hN1s
            go_wp2_with fail
            go_ret2
            rw [HS.out.2.2.1]
            exact ⟨rfl, by first | exact H3.out | (rw [← hX]; exact H3.out)⟩
          | true =>
            obtain ⟨⟨t6, D1, r1, s1, D2, r2, s2⟩, rfl, _⟩ := hp
            simp only [NF.val]
            go_upto_region 21 with (refine wpList_store_arr rfl 25 (.tmp 8) (.tmp 65) rfl N1 25 _ [.int .i64 t6, .slice D1 r1 s1, .slice D2 r2 s2] HZ.out.1 rfl rfl (by kernel_rfl) rfl rfl ?_; intro w3 hB3 hT3; have H3b := Lib.hid (And.intro hB3 hT3); clear hB3 hT3)
            try simp only [Act.put]
            have hb3 := boxedN hN1s H3b.out.2
            have H3 := Lib.hid (And.intro (HZ.out.2.1.below hb3) (HZ.out.2.2.trans (hb3.mono HZ.out.2.2.size)))
            clear hb3 hN1s
            go_wp2_with fail
            go_ret2
            rw [HS.out.2.2.1]
            exact ⟨⟨A, nl, cl, rfl, H3.out.1.mono HS.out.2.2.2⟩, by first | exact H3.out.2 | (rw [← hX]; exact H3.out.2)⟩
  · have h2d : (tag == 6) = false := by simp [h2]
    have HN := Lib.hid (show ans = none by rw [← HANS.out, decide_eq_false h2]; rfl)
    clear hc
    go_enter Try.func26, Try.ntmps26
    go_wp2_with fail
    try rw [hX]
    try rw [hwA]
    go_wp2_with fail
    go_ret2
    rw [HN.out]
    exact ⟨rfl, by first | exact HB.out.1 | (rw [← hX]; exact HB.out.1)⟩
end Go.Proofs.Ytgkhhinjdojbhaa
