/-
  Modes, the document's answer: eight, next, double.
  Modes, the document's answer: next, double.
  The reference's cipher in memory; its mix.
-/
import Derived.Test.YtiocmebcbhbcmaaZzMr1
import Derived.Test.YtiocmebcbhbcmaaZzMo20
import Derived.Test.YtiocmebcbhbcmaaAesBx
import Derived.Test.YtiocmebcbhbcmaaZzAesQ
import Derived.StillTailTactics
namespace Go.Proofs.Ytiocmebcbhbcmaa
set_option maxRecDepth 100000
open Go.RowKit

/-- Laid from behind. -/
def dmid (k : Nat) (o l : List UInt8) : List UInt8 := l.take k ++ o.drop k
theorem dmid_all (o l : List UInt8) (n : Nat) (ho : o.length = n) (hl : l.length = n) : dmid n o l = l := by
  unfold dmid
  rw [← hl, List.take_length, List.drop_eq_nil_of_le (by omega), List.append_nil]
theorem dmid_zero (o l : List UInt8) : dmid 0 o l = o := by simp [dmid]
theorem dmid_len (k : Nat) (o l : List UInt8) (n : Nat) (ho : o.length = n) (hl : l.length = n) (hk : k ≤ n) : (dmid k o l).length = n := by
  unfold dmid
  rw [List.length_append, List.length_take, List.length_drop]
  omega
theorem dmid_set (k : Nat) (o l : List UInt8) (x : UInt8) (hx : o[k]? = some x) (hl : k < l.length) : (dmid (k + 1) o l).set k x = dmid k o l := by
  unfold dmid
  have hko : k < o.length := by
    rcases Nat.lt_or_ge k o.length with h | h
    · exact h
    · rw [List.getElem?_eq_none h] at hx; cases hx
  have e1 : l.take (k + 1) = l.take k ++ [l[k]] := by rw [List.take_add_one, List.getElem?_eq_getElem hl]; rfl
  have e2 : o.drop k = x :: o.drop (k + 1) := by
    rw [List.drop_eq_getElem_cons hko]
    have := hx
    rw [List.getElem?_eq_getElem hko] at this
    cases this
    rfl
  have hlk : (l.take k).length = k := by rw [List.length_take]; omega
  rw [e1, e2, List.append_assoc]
  rw [List.set_append_right _ _ (by omega), hlk, Nat.sub_self]
  rfl
theorem bytes64_at (n i : Nat) (h : i < 8) (hn : n < 18446744073709551616) : (bytes64 (UInt64.ofNat n))[i]? = some (UInt8.ofNat (n / 256 ^ (7 - i) % 256)) := by
  have ht : ∀ k : Nat, k ≤ 7 → (UInt64.ofNat n >>> UInt64.ofNat (8 * k)).toUInt8 = UInt8.ofNat (n / 256 ^ k % 256) := fun k hk => by
    apply UInt8.toNat_inj.1
    rw [UInt64.toNat_toUInt8, UInt64.toNat_shiftRight, UInt8.toNat_ofNat', UInt64.toNat_ofNat', UInt64.toNat_ofNat', Nat.shiftRight_eq_div_pow, show n % 2 ^ 64 = n by omega, show 8 * k % 2 ^ 64 % 64 = 8 * k by omega,
      show (2 : Nat) ^ (8 * k) = 256 ^ k by rw [Nat.pow_mul]]
    simp
  have h0 := ht 0 (by omega)
  have h1 := ht 1 (by omega)
  have h2 := ht 2 (by omega)
  have h3 := ht 3 (by omega)
  have h4 := ht 4 (by omega)
  have h5 := ht 5 (by omega)
  have h6 := ht 6 (by omega)
  have h7 := ht 7 (by omega)
  have hz : (UInt64.ofNat n).toUInt8 = UInt8.ofNat (n / 256 ^ 0 % 256) := by
    apply UInt8.toNat_inj.1
    rw [UInt64.toNat_toUInt8, UInt64.toNat_ofNat', UInt8.toNat_ofNat', Nat.mod_eq_of_lt (a := n) (by omega)]
    simp
  have : i = 0 ∨ i = 1 ∨ i = 2 ∨ i = 3 ∨ i = 4 ∨ i = 5 ∨ i = 6 ∨ i = 7 := by omega
  rcases this with rfl | rfl | rfl | rfl | rfl | rfl | rfl | rfl
  · exact congrArg some h7
  · exact congrArg some h6
  · exact congrArg some h5
  · exact congrArg some h4
  · exact congrArg some h3
  · exact congrArg some h2
  · exact congrArg some h1
  · exact congrArg some hz
set_option maxHeartbeats 1000000 in
theorem eight_any (n : Nat) (w : World) (hn : n ≤ 1000000000000) :
    Calls Try.prog 56 #[.int .i64 (n : Int)] w fun e w' => e = .returned (.slice (some ⟨w.heap.size, 0, none⟩) 8 8) ∧ Own w' w.heap.size (.slice (some ⟨w.heap.size, 0, none⟩) 8 8) (bytes64 (UInt64.ofNat n)) ∧ Old w w' := by
  obtain ⟨X, hX⟩ : ∃ X, w.heap.size = X := ⟨_, rfl⟩
  have hmk := Try.prog_make 8 (by omega) w
  obtain ⟨w1, hw1⟩ : ∃ w1, w.alloc (.cells (madeCells #[.int .u8 0] 8) 5) = w1 := ⟨_, rfl⟩
  have hO1 : Own w1 X (.slice (some ⟨X, 0, none⟩) 8 8) (zs 8) := by rw [← hw1, ← hX]; exact Own.made w 8 (by unfold maxLen; omega)
  have hB1 : Old w w1 := by rw [← hw1]; exact (Old.refl _).alloc _
  rw [hw1, hX, show ((8 : Nat) : Int) = 8 from rfl] at hmk
  have HH := Lib.hid (And.intro hO1 hB1)
  have HX := Lib.hid hX
  clear hO1 hB1 hw1
  rw [hX]
  clear hX
  obtain ⟨L, hL⟩ : ∃ L, bytes64 (UInt64.ofNat n) = L := ⟨_, rfl⟩
  have hat : ∀ i, i < 8 → L[i]? = some (UInt8.ofNat (n / 256 ^ (7 - i) % 256)) := fun i hi => by rw [← hL]; exact bytes64_at n i hi (by omega)
  have hLl : L.length = 8 := by rw [← hL]; rfl
  rw [hL]
  have HL := Lib.hid (And.intro hat hLl)
  clear hat hLl hL
  go_enter Try.func56, Try.ntmps56
  go_wp2_with fail
  clear hmk
  go_loopw [0, 4] (fun vn vi wr => ∃ k m : Nat, vn = .int .i64 (m : Int) ∧ vi = .int .i64 ((k : Int) - 1) ∧ k ≤ 8 ∧ m = n / 256 ^ (8 - k) ∧ Own wr X (.slice (some ⟨X, 0, none⟩) 8 8) (dmid k L (zs 8)) ∧ Old w wr) (fun _ vi _ => (intOf vi + 1).toNat)
  case atStart => exact ⟨8, n, rfl, rfl, by omega, by simp, by rw [dmid_all _ _ 8 HL.out.2 (zs_len 8)]; exact HH.out.1, HH.out.2⟩
  case round =>
    obtain ⟨k, m, rfl, rfl, hk, hm, hO, hB⟩ := hrel
    rcases k with _ | i
    · have h0 : ¬ (((0 : Nat) : Int) - 1 ≥ 0) := by omega
      rw [dmid_zero] at hO
      have HX2 := Lib.hid (And.intro hO hB)
      clear hO hB hm
      go_wp2_with fail
      go_ret
      exact ⟨rfl, HX2.out.1, HX2.out.2⟩
    · have e1 : (((i + 1 : Nat) : Int) - 1) = (i : Int) := by omega
      have hi : i < 8 := by omega
      have hi0 : (i : Int) ≥ 0 := by omega
      have hi8 : (i : Int) < 8 := by omega
      have hmn : m ≤ n := by rw [hm]; exact Nat.div_le_self _ _
      obtain ⟨q, hq⟩ : ∃ q, m % 256 = q := ⟨_, rfl⟩
      have hr1 : (m : Int) % 256 = (q : Int) := by omega
      have hr2 : Int.tmod (m : Int) 256 = (q : Int) := by rw [Int.tmod_eq_emod_of_nonneg (by omega)]; exact hr1
      have hcv := fun W : World => conv_i8 q (by omega) W
      obtain ⟨m2, hm2⟩ : ∃ m2, m / 256 = m2 := ⟨_, rfl⟩
      have hd1 : (m : Int) / 256 = (m2 : Int) := by omega
      have hd2 : Int.tdiv (m : Int) 256 = (m2 : Int) := by rw [Int.tdiv_eq_ediv_of_nonneg (by omega)]; exact hd1
      have hwi : IntKind.i64.wrap ((i : Int) - 1) = (i : Int) - 1 := IntWalk.i64_in _ (by omega)
      have hx : L[i]? = some (UInt8.ofNat q) := by
        rw [HL.out.1 i hi, ← hq, hm, show 8 - (i + 1) = 7 - i by omega]
      obtain ⟨z, hz⟩ : ∃ z, (dmid (i + 1) L (zs 8))[i]? = some z := ⟨_, List.getElem?_eq_getElem (by rw [dmid_len _ _ _ 8 HL.out.2 (zs_len 8) (by omega)]; exact hi)⟩
      have y2 := hO.cell i z hz
      have y3 := hO.frozen i
      have h1 := hO.set_ i (UInt8.ofNat q) hi
      rw [dmid_set i L (zs 8) _ hx (by rw [zs_len]; exact hi)] at h1
      have hT : Turn [X] wr (wr.setCell ⟨X, i, none⟩ (B (UInt8.ofNat q))) := (Turn.refl _ _).setCell (p := ⟨X, i, none⟩) (.inl (by simp)) _
      have hB2 : Old w (wr.setCell ⟨X, i, none⟩ (B (UInt8.ofNat q))) := below_turn hB hT (by simp; rw [HX.out]; exact Nat.le_refl _) hB.size
      have hm3 : m2 = n / 256 ^ (8 - i) := by rw [← hm2, hm, Nat.div_div_eq_div_mul, ← Nat.pow_succ, show (8 - (i + 1)).succ = 8 - i by omega]
      have HS := Lib.hid (And.intro h1 (And.intro hB2 hm3))
      rw [e1]
      clear hO hB hT hz hx h1 hB2 hm3 hm hk hq hm2 e1 hi
      go_wp2_with fail
      go_roundw
      case rel => exact ⟨i, m2, rfl, rfl, by omega, HS.out.2.2, HS.out.1, HS.out.2.1⟩
      case measure => simp [intOf]
end Go.Proofs.Ytiocmebcbhbcmaa
namespace Go.Proofs.Ytiocmebcbhbcmaa
set_option maxRecDepth 100000
open Go.RowKit

def bitB (r : Nat) : UInt8 := UInt8.ofNat (2 ^ r)
theorem bit_lit (r : Nat) (h : r < 8) : Value.int .u8 (((2 : Int) ^ r) % 256) = B (bitB r) := by
  have : r = 0 ∨ r = 1 ∨ r = 2 ∨ r = 3 ∨ r = 4 ∨ r = 5 ∨ r = 6 ∨ r = 7 := by omega
  rcases this with rfl | rfl | rfl | rfl | rfl | rfl | rfl | rfl <;> rfl
def nxG : Nat → Nat → List UInt8 → List UInt8
  | 0, _, l => l
  | f + 1, i, l => if isN ((l.getD (15 - i / 8) 0 ^^^ bitB (i % 8)) &&& bitB (i % 8)) 0 = true then nxG f (i + 1) (l.set (15 - i / 8) (l.getD (15 - i / 8) 0 ^^^ bitB (i % 8)))
    else l.set (15 - i / 8) (l.getD (15 - i / 8) 0 ^^^ bitB (i % 8))
def byG : Nat → Nat → UInt8 → UInt8 × Bool
  | 0, _, x => (x, false)
  | f + 1, j, x => if isN ((x ^^^ bitB j) &&& bitB j) 0 = true then byG f (j + 1) (x ^^^ bitB j) else (x ^^^ bitB j, true)
theorem byG_all (n : Nat) (hn : n ≤ 8) (x : UInt8) : byG n 0 x = (nxB n x, !goB n x) := by
  have h : ∀ n : Fin 9, ∀ i : Fin 256, byG n.val 0 (UInt8.ofNat i.val) = (nxB n.val (UInt8.ofNat i.val), !goB n.val (UInt8.ofNat i.val)) := by decide +kernel
  have := h ⟨n, by omega⟩ ⟨x.toNat, x.toNat_lt⟩
  simpa using this
theorem set_getD (l : List UInt8) (k : Nat) : l.set k (l.getD k 0) = l := by
  by_cases h : k < l.length
  · rw [List.getD_eq_getElem?_getD, List.getElem?_eq_getElem h]
    simp
  · rw [List.set_eq_of_length_le (by omega)]
theorem byG_step (f j : Nat) (x : UInt8) : byG (f + 1) j x = if isN ((x ^^^ bitB j) &&& bitB j) 0 = true then byG f (j + 1) (x ^^^ bitB j) else (x ^^^ bitB j, true) := rfl
theorem nxG_succ (f m j : Nat) (l : List UInt8) (hj : j < 8) : nxG (f + 1) (8 * m + j) l = if isN ((l.getD (15 - m) 0 ^^^ bitB j) &&& bitB j) 0 = true then nxG f (8 * m + (j + 1)) (l.set (15 - m) (l.getD (15 - m) 0 ^^^ bitB j))
    else l.set (15 - m) (l.getD (15 - m) 0 ^^^ bitB j) := by
  have e1 : (8 * m + j) / 8 = m := by omega
  have e2 : (8 * m + j) % 8 = j := by omega
  show (if isN ((l.getD (15 - (8 * m + j) / 8) 0 ^^^ bitB ((8 * m + j) % 8)) &&& bitB ((8 * m + j) % 8)) 0 = true then _ else _) = _
  rw [e1, e2]
  rfl
theorem nxG_byte (m f2 : Nat) (hm : m < 16) : ∀ (f1 j : Nat) (l : List UInt8) (y : UInt8) (st : Bool), j + f1 ≤ 8 → l.length = 16 → byG f1 j (l.getD (15 - m) 0) = (y, st) →
    (st = true → nxG (f1 + f2) (8 * m + j) l = l.set (15 - m) y) ∧ (st = false → nxG (f1 + f2) (8 * m + j) l = nxG f2 (8 * m + j + f1) (l.set (15 - m) y))
  | 0, j, l, y, st, _, _, hb => by
    simp only [byG, Prod.mk.injEq] at hb
    obtain ⟨rfl, rfl⟩ := hb
    refine ⟨fun h => (by cases h), fun _ => ?_⟩
    rw [set_getD, Nat.zero_add]
    rfl
  | f1 + 1, j, l, y, st, hj, hl, hb => by
    rw [byG_step] at hb
    rw [show f1 + 1 + f2 = (f1 + f2) + 1 by omega, nxG_succ _ _ _ _ (by omega)]
    by_cases h : isN ((l.getD (15 - m) 0 ^^^ bitB j) &&& bitB j) 0 = true
    · rw [if_pos h] at hb
      rw [if_pos h]
      have eg : (l.set (15 - m) (l.getD (15 - m) 0 ^^^ bitB j)).getD (15 - m) 0 = l.getD (15 - m) 0 ^^^ bitB j := by
        rw [List.getD_eq_getElem?_getD, List.getElem?_set_self (by omega)]
        rfl
      have ih := nxG_byte m f2 hm f1 (j + 1) (l.set (15 - m) (l.getD (15 - m) 0 ^^^ bitB j)) y st (by omega) (by simp [hl]) (by rw [eg]; exact hb)
      rw [List.set_set, show 8 * m + (j + 1) + f1 = 8 * m + j + (f1 + 1) by omega] at ih
      exact ih
    · rw [if_neg h] at hb
      rw [if_neg h]
      simp only [Prod.mk.injEq] at hb
      obtain ⟨rfl, rfl⟩ := hb
      exact ⟨fun _ => rfl, fun h => (by cases h)⟩
theorem nxG_step : ∀ (k m left : Nat) (l : List UInt8), k + m = 16 → l.length = 16 → left ≤ 8 * k → nxG left (8 * m) l = stepF k left l
  | 0, m, left, l, _, _, h => by
    obtain rfl : left = 0 := by omega
    rfl
  | k + 1, m, left, l, hk, hl, h => by
    by_cases h0 : left = 0
    · subst h0; simp [nxG, stepF]
    · obtain ⟨n, hn⟩ : ∃ n, min left 8 = n := ⟨_, rfl⟩
      have hb := nxG_byte m (left - n) (by omega) n 0 l (nxB n (l.getD (15 - m) 0)) (!goB n (l.getD (15 - m) 0)) (by omega) hl (byG_all n (by omega) _)
      rw [show n + (left - n) = left by omega, Nat.add_zero, show 15 - m = k by omega] at hb
      show _ = (if left = 0 then l else if goB (min left 8) (l.getD k 0) = true then stepF k (left - min left 8) (l.set k (nxB (min left 8) (l.getD k 0))) else l.set k (nxB (min left 8) (l.getD k 0)))
      rw [if_neg h0, hn]
      by_cases hg : goB n (l.getD k 0) = true
      · rw [hb.2 (by rw [hg]; rfl), if_pos hg]
        by_cases h8 : 8 ≤ left
        · obtain rfl : n = 8 := by omega
          rw [show 8 * m + 8 = 8 * (m + 1) by omega]
          exact nxG_step k (m + 1) (left - 8) _ (by omega) (by simp [hl]) (by omega)
        · rw [show left - n = 0 by omega]
          cases k <;> simp [nxG, stepF]
      · rw [hb.1 (by rw [Bool.eq_false_iff.2 hg]; rfl), if_neg hg]
theorem nxG_L (wd : Nat) (h : wd ≤ 128) (l : List UInt8) (hl : l.length = 16) : nxG wd 0 l = stepL wd l := nxG_step 16 0 wd l rfl hl h
set_option maxHeartbeats 1000000 in
theorem rnext_any (A : Option Addr) (c wd : Nat) (l : List UInt8) (w : World) (h : Rd w A 16 c l) (hw : wd ≤ 128) :
    Calls Try.prog 61 #[.slice A 16 c, .int .i64 (wd : Int)] w fun e w' => ∃ g cc, e = .returned (.slice (some ⟨g, 0, none⟩) 16 cc) ∧ Own w' w.heap.size (.slice (some ⟨g, 0, none⟩) 16 cc) (stepL wd l) ∧ Old w w' := by
  have hl := h.1.symm
  obtain ⟨TG, hTG⟩ : ∃ T, stepL wd l = T := ⟨_, rfl⟩
  rw [hTG]
  have hst : nxG wd 0 l = TG := by rw [← hTG]; exact nxG_L wd hw l hl
  have HH := Lib.hid (And.intro h (And.intro hl hst))
  clear h hl hst hTG
  go_enter Try.func61, Try.ntmps61
  go_upto_region 2 with (at_builtin; refine wp_app2 (.const (.slice none 0 0)) (.tmp 9) w.heap.size (.slice none 0 0) [] (Own.nil _ _) (Nat.le_refl _) A 16 c l HH.out.1 (by have := HH.out.2.1; simp; omega) rfl rfl rfl rfl ?_; intro A2 n2 c2 w2 hn2 hG; have H2 := Lib.hid hG; clear hG)
  have hn2 : n2 = 16 := by have h1 := H2.out.len; rw [List.nil_append, HH.out.2.1] at h1; exact h1
  subst hn2
  obtain ⟨g, c3, e⟩ := H2.out.own.form (by intro e; injection e with _ e2 _; omega)
  injection e with e1 e2 e3
  subst e1 e3
  clear e2
  have hown : Own w2 w.heap.size (.slice (some ⟨g, 0, none⟩) 16 c2) l := by have := H2.out.own; rwa [List.nil_append] at this
  have hge : w.heap.size ≤ g := hown.addr_ge _ rfl
  have HO := Lib.hid (And.intro hown (And.intro hge H2.out.below))
  clear hown hge
  go_wp2_with fail
  go_loopw [6] (fun vi wr => ∃ (i f : Nat) (r : List UInt8), vi = .int .i64 (i : Int) ∧ i + f = wd ∧ r.length = 16 ∧ nxG f i r = TG ∧ Own wr w.heap.size (.slice (some ⟨g, 0, none⟩) 16 c2) r ∧ Old w wr) (fun vi _ => wd - (intOf vi).toNat)
  case atStart => exact ⟨0, wd, l, rfl, by omega, HH.out.2.1, HH.out.2.2, HO.out.1, HO.out.2.2⟩
  case round =>
    obtain ⟨i, f, r, rfl, hif, hr, hg, hO, hB⟩ := hrel
    by_cases hlt : i < wd
    · have hlti : (i : Int) < wd := by omega
      have hltd : decide ((i : Int) < (wd : Int)) = true := decide_eq_true hlti
      obtain ⟨f', rfl⟩ : ∃ f', f = f' + 1 := ⟨f - 1, by omega⟩
      obtain ⟨q, hq⟩ : ∃ q, i / 8 = q := ⟨_, rfl⟩
      have hq1 : (i : Int) / 8 = (q : Int) := by omega
      have hq2 : Int.tdiv (i : Int) 8 = (q : Int) := by rw [Int.tdiv_eq_ediv_of_nonneg (by omega)]; exact hq1
      obtain ⟨k, hk⟩ : ∃ k, 15 - q = k := ⟨_, rfl⟩
      have hq15 : q ≤ 15 := by omega
      have hk1 : IntKind.i64.wrap (15 - (q : Int)) = (k : Int) := by rw [IntWalk.i64_in _ (by omega)]; omega
      have hk16 : (k : Int) < 16 := by omega
      obtain ⟨j, hj⟩ : ∃ j, i % 8 = j := ⟨_, rfl⟩
      have hj1 : (i : Int) % 8 = (j : Int) := by omega
      have hj2 : Int.tmod (i : Int) 8 = (j : Int) := by rw [Int.tmod_eq_emod_of_nonneg (by omega)]; exact hj1
      have hj8 : j < 8 := by omega
      have hbit := bit_lit j hj8
      have hwi : IntKind.i64.wrap ((i : Int) + 1) = ((i + 1 : Nat) : Int) := by rw [IntWalk.i64_in _ (by omega)]; omega
      obtain ⟨x, hx⟩ : ∃ x, r[k]? = some x := ⟨_, List.getElem?_eq_getElem (by omega)⟩
      have hxd : r.getD k 0 = x := getD_some hx
      simp only [nxG] at hg
      rw [hq, hk, hj, hxd] at hg
      have y0 := hO.cell k x hx
      have f0 := hO.frozen k
      obtain ⟨y, hy⟩ : ∃ y, x ^^^ bitB j = y := ⟨_, rfl⟩
      rw [hy] at hg
      have h1 := hO.set_ k y (by omega)
      have hT : Turn [g] wr (wr.setCell ⟨g, k, none⟩ (B y)) := (Turn.refl _ _).setCell (p := ⟨g, k, none⟩) (.inl (by simp)) _
      have hB2 : Old w (wr.setCell ⟨g, k, none⟩ (B y)) := below_turn hB hT (by simp; exact HO.out.2.1) hB.size
      have y1 := h1.cell k y (by rw [List.getElem?_set_self (by omega)])
      have hrl : (r.set k y).length = 16 := by simp [hr]
      cases hb : isN (y &&& bitB j) 0 with
      | true =>
        rw [if_pos hb] at hg
        have HS := Lib.hid (And.intro h1 (And.intro hB2 (And.intro hg (And.intro hrl hif))))
        clear hO hB hT h1 hB2 hg hrl hif hr hx hxd hq hk hj hq15 hj8
        go_wp2_with fail
        go_roundw
        case rel => exact ⟨i + 1, f', r.set k y, by first | rfl | (congr 1), by have := HS.out.2.2.2.2; omega, HS.out.2.2.2.1, HS.out.2.2.1, HS.out.1, HS.out.2.1⟩
        case measure => simp [intOf]; omega
      | false =>
        rw [if_neg (by rw [hb]; decide)] at hg
        have HS := Lib.hid (And.intro h1 (And.intro hB2 hg))
        clear hO hB hT h1 hB2 hg hrl hif hr hx hxd hq hk hj hq15 hj8
        go_wp2_with fail
        go_ret
        exact ⟨g, c2, rfl, by rw [← HS.out.2.2]; exact HS.out.1, HS.out.2.1⟩
    · obtain rfl : f = 0 := by omega
      have hlti : ¬ (i : Int) < wd := by omega
      have hltd : decide ((i : Int) < (wd : Int)) = false := decide_eq_false hlti
      have hg' : r = TG := hg
      subst hg'
      have HX := Lib.hid (And.intro hO hB)
      clear hO hB hr hif hg
      go_wp2_with fail
      go_ret
      exact ⟨g, c2, rfl, HX.out.1, HX.out.2⟩
end Go.Proofs.Ytiocmebcbhbcmaa
namespace Go.Proofs.Ytiocmebcbhbcmaa
open Go.RowKit

/-- The reference's cipher: c its place; block kb holds the round keys' slices. -/
def RCip (W : World) (c kb R cap g1 g2 : Nat) (ks : List UInt8) : Prop :=
  Blk W c 67 #[.slice (some ⟨kb, 0, none⟩) R cap, .slice (some ⟨g1, 0, none⟩) 256 256, .slice (some ⟨g2, 0, none⟩) 256 256] ∧ kb < W.heap.size ∧ ks.length = 16 * R ∧ 11 ≤ R ∧ R ≤ 15 ∧ R ≤ cap ∧
  (∀ i, i < R → ∃ gk o, W.cell? ⟨kb, i, none⟩ = some (.slice (some ⟨gk, o, none⟩) 16 16) ∧ Rd W (some ⟨gk, o, none⟩) 16 16 (key ks i)) ∧ Rd W (some ⟨g1, 0, none⟩) 256 256 boxL ∧ Rd W (some ⟨g2, 0, none⟩) 256 256 invL
theorem RCip.below {W W' : World} {c kb R cap g1 g2 : Nat} {ks : List UInt8} (h : RCip W c kb R cap g1 g2 ks) (hb : Below W.heap.size W W') : RCip W' c kb R cap g1 g2 ks := by
  obtain ⟨h1, h2, h3, h4, h5, h6, h7, h8, h9⟩ := h
  refine ⟨h1.below hb, Nat.lt_of_lt_of_le h2 hb.size, h3, h4, h5, h6, fun i hi => ?_, h8.below hb, h9.below hb⟩
  obtain ⟨gk, o, a, b⟩ := h7 i hi
  exact ⟨gk, o, by rw [hb.cell (p := ⟨kb, i, none⟩) h2]; exact a, b.below hb⟩
/-- The mixed bytes, all at once. -/
def rmix (l fs : List UInt8) : List UInt8 := (List.range 16).map fun p => mixB l fs (4 * (p / 4)) (p % 4) 4
theorem rmix_len (l fs : List UInt8) : (rmix l fs).length = 16 := by simp [rmix]
theorem rmix_at (l fs : List UInt8) (p : Nat) (h : p < 16) : (rmix l fs)[p]? = some (mixB l fs (4 * (p / 4)) (p % 4) 4) := by unfold rmix; rw [List.getElem?_map, List.getElem?_range h]; rfl
theorem rmix_eq (l : List UInt8) (f0 f1 f2 f3 : UInt8) (h : l.length = 16) : rmix l [f0, f1, f2, f3] = mixN l [f0, f1, f2, f3] 4 := by
  obtain ⟨x0, x1, x2, x3, x4, x5, x6, x7, x8, x9, x10, x11, x12, x13, x14, x15, rfl⟩ := list16 l h
  rfl
theorem rtimes_still (b f : UInt8) (w : World) : Calls Try.prog 59 #[B b, B f] w fun e w' => e = .returned (B (gm b f)) ∧ w' = w := (rtimes_any b f w).mono fun _ _ h => ⟨h.1, h.2.symm⟩
set_option maxRecDepth 100000 in
set_option maxHeartbeats 2000000 in
theorem rmix_any (A C : Option Addr) (ca cc : Nat) (l fs : List UInt8) (w : World) (hl : Rd w A 16 ca l) (hf : Rd w C 4 cc fs) :
    Calls Try.prog 60 #[.slice A 16 ca, .slice C 4 cc] w fun e w' => e = .returned (.slice (some ⟨w.heap.size, 0, none⟩) 16 16) ∧ Own w' w.heap.size (.slice (some ⟨w.heap.size, 0, none⟩) 16 16) (rmix l fs) ∧ Below w.heap.size w w' := by
  have hll : l.length = 16 := hl.1.symm
  have hfl : fs.length = 4 := hf.1.symm
  have hca := hl.2.1
  have hcc := hf.2.1
  obtain ⟨bl, ol, rfl, hal⟩ := hl.addr (by omega)
  obtain ⟨bf, of_, rfl, haf⟩ := hf.addr (by omega)
  obtain ⟨X, hX⟩ : ∃ X, w.heap.size = X := ⟨_, rfl⟩
  have hmk := Try.prog_make 16 (by omega) w
  obtain ⟨w1, hw1⟩ : ∃ w1, w.alloc (.cells (madeCells #[.int .u8 0] 16) 5) = w1 := ⟨_, rfl⟩
  have hO1 : Own w1 X (.slice (some ⟨X, 0, none⟩) 16 16) (zs 16) := by rw [← hw1, ← hX]; exact Own.made w 16 (by unfold maxLen; omega)
  have hB1 : Below X w w1 := by rw [← hw1, ← hX]; exact (Below.refl _ _).alloc (Nat.le_refl _) _
  rw [hw1, hX, show ((16 : Nat) : Int) = 16 from rfl] at hmk
  have hblX : bl < X := by rw [← hX]; exact hal.1
  have hbfX : bf < X := by rw [← hX]; exact haf.1
  have HH := Lib.hid (And.intro hal (And.intro haf (And.intro hll (And.intro hfl (And.intro hO1 hB1)))))
  clear hal haf hl hf hll hfl hO1 hB1 hw1
  rw [hX]
  go_enter Try.func60, Try.ntmps60
  go_wp2_with fail
  clear hmk
  go_loopw [6] (fun iv wr => ∃ i : Nat, i ≤ 4 ∧ iv = .int .i64 (i : Int) ∧ Own wr X (.slice (some ⟨X, 0, none⟩) 16 16) (mid (4 * i) (rmix l fs) (zs 16)) ∧ Below X w wr) (fun iv _ => 4 - (intOf iv).toNat)
  case atStart => exact ⟨0, by omega, rfl, by rw [Nat.mul_zero, mid_zero]; exact HH.out.2.2.2.2.1, HH.out.2.2.2.2.2⟩
  case round =>
    obtain ⟨i, hi, rfl, hO, hB⟩ := hrel
    by_cases hlt : i < 4
    · have hq : (i : Int) < 4 := by omega
      have HO := Lib.hid (And.intro hO hB)
      clear hO hB
      go_wp2_with fail
      go_loopw [7] (fun rv wz => ∃ r : Nat, r ≤ 4 ∧ rv = .int .i64 (r : Int) ∧ Own wz X (.slice (some ⟨X, 0, none⟩) 16 16) (mid (4 * i + r) (rmix l fs) (zs 16)) ∧ Below X w wz) (fun rv _ => 4 - (intOf rv).toNat)
      case atStart => exact ⟨0, by omega, rfl, HO.out.1, HO.out.2⟩
      case round =>
        obtain ⟨r, hr, rfl, hO, hB⟩ := hrel
        clear HO
        by_cases hrlt : r < 4
        · have hrq : (r : Int) < 4 := by omega
          have HO := Lib.hid (And.intro hO hB)
          clear hO hB
          go_wp2_with fail
          go_loopw [8, 9] (fun xv kv wy => ∃ k : Nat, k ≤ 4 ∧ kv = .int .i64 (k : Int) ∧ xv = B (mixB l fs (4 * i) r k) ∧ Own wy X (.slice (some ⟨X, 0, none⟩) 16 16) (mid (4 * i + r) (rmix l fs) (zs 16)) ∧ Below X w wy) (fun _ kv _ => 4 - (intOf kv).toNat)
          case atStart => exact ⟨0, by omega, rfl, rfl, HO.out.1, HO.out.2⟩
          case round =>
            obtain ⟨k, hk, rfl, rfl, hO, hB⟩ := hrel
            clear HO
            by_cases hklt : k < 4
            · have hkq : (k : Int) < 4 := by omega
              obtain ⟨x, hx⟩ := at16 l HH.out.2.2.1 (4 * i + k) (by omega)
              obtain ⟨p, hp⟩ : ∃ p, p = (k + 4 - r) % 4 := ⟨_, rfl⟩
              have hp4 : p < 4 := by omega
              obtain ⟨f, hf⟩ := at4 fs HH.out.2.2.2.1 p hp4
              have y2 : wr.cell? ⟨bl, ol + (4 * i + k), none⟩ = some (B x) := by rw [hB.cell (p := ⟨bl, ol + (4 * i + k), none⟩) hblX]; exact HH.out.1.2 _ x hx
              have y3 : wr.cell? ⟨bf, of_ + p, none⟩ = some (B f) := by rw [hB.cell (p := ⟨bf, of_ + p, none⟩) hbfX]; exact HH.out.2.1.2 _ f hf
              have g0 : IntKind.i64.wrap ((k : Int) - r) = (k : Int) - r := IntWalk.i64_in _ (by omega)
              have g1 : IntKind.i64.wrap ((k : Int) - r + 4) = (k : Int) - r + 4 := IntWalk.i64_in _ (by omega)
              have g2 : ((k : Int) - r + 4).tmod 4 = (p : Int) := by rw [Int.tmod_eq_emod_of_nonneg (by omega)]; omega
              have g2' : ((k : Int) - r + 4) % 4 = (p : Int) := by omega
              have g3 : (p : Int) < 4 := by omega
              have g5 : (4 : Int) * i + k < 16 := by omega
              have g6 : IntKind.i64.wrap ((4 : Int) * i + k) = (4 : Int) * i + k := IntWalk.i64_in _ (by omega)
              have g6' : IntKind.i64.wrap ((4 : Int) * i) = (4 : Int) * i := IntWalk.i64_in _ (by omega)
              have g7 : ((4 : Int) * i + k).toNat = 4 * i + k := by omega
              have g8 : (0 : Int) ≤ 4 * i + k := by omega
              have g9 : (4 : Int) * i + k < ca := by omega
              have g10 : (p : Int) < cc := by omega
              have hnew : mixB l fs (4 * i) r (k + 1) = mixB l fs (4 * i) r k ^^^ gm x f := by
                show mixB l fs (4 * i) r k ^^^ gm (l.getD (4 * i + k) 0) (fs.getD ((k + 4 - r) % 4) 0) = _
                rw [← hp, List.getD_eq_getElem?_getD, hx, List.getD_eq_getElem?_getD, hf]; rfl
              have HB := Lib.hid (And.intro hO (And.intro hB hnew))
              generalize mixB l fs (4 * i) r k = Z at *
              clear hO hB hnew hx hf hp
              go_wp2_with fail
              go_still_tail 18, (by kernel_rfl)
              still_call (rtimes_still x f _)
              repeat still_step
              try refine wpStill_nil ?_
              go_wp2_with fail
              go_roundw
              case rel => exact ⟨k + 1, by omega, by go_num, by rw [HB.out.2.2], HB.out.1, HB.out.2.1.drew⟩
              case measure => simp [intOf]; omega
            · obtain rfl : k = 4 := by omega
              have hkq : ¬ ((4 : Int) < 4) := by omega
              obtain ⟨z, hz⟩ := at16 (mid (4 * i + r) (rmix l fs) (zs 16)) hO.len.symm (4 * i + r) (by omega)
              have y0 := hO.cell _ z hz
              have y1 := hO.frozen (4 * i + r)
              have g5 : (4 : Int) * i + r < 16 := by omega
              have g6 : IntKind.i64.wrap ((4 : Int) * i + r) = (4 : Int) * i + r := IntWalk.i64_in _ (by omega)
              have g6' : IntKind.i64.wrap ((4 : Int) * i) = (4 : Int) * i := IntWalk.i64_in _ (by omega)
              have g7 : ((4 : Int) * i + r).toNat = 4 * i + r := by omega
              have g8 : (0 : Int) ≤ 4 * i + r := by omega
              have hat := rmix_at l fs (4 * i + r) (by omega)
              rw [show (4 * i + r) / 4 = i by omega, show (4 * i + r) % 4 = r by omega] at hat
              have HB := Lib.hid (And.intro hO (And.intro hB hat))
              generalize mixB l fs (4 * i) r 4 = Z at *
              clear hO hB hat hz hk hklt
              go_wp2_with fail
              have h1 := HB.out.1.set_ (4 * i + r) Z (by omega)
              rw [mid_set _ _ _ _ HB.out.2.2 (by rw [zs_len]; omega)] at h1
              have hT : Turn [X] wr (wr.setCell ⟨X, 4 * i + r, none⟩ (B Z)) := (Turn.refl _ _).setCell (p := ⟨X, 4 * i + r, none⟩) (.inl (by simp)) _
              go_roundw
              case rel => exact ⟨r + 1, by omega, by go_num, h1, below_turn HB.out.2.1 hT (by simp) (by rw [← hX]; exact HB.out.2.1.size)⟩
              case measure => simp [intOf]; omega
        · obtain rfl : r = 4 := by omega
          have hrq : ¬ ((4 : Int) < 4) := by omega
          have HB := Lib.hid (And.intro hO hB)
          clear hO hB hr hrlt
          go_wp2_with fail
          go_roundw
          case rel => exact ⟨i + 1, by omega, by go_num, by rw [Nat.mul_add]; exact HB.out.1, HB.out.2⟩
          case measure => simp [intOf]; omega
    · obtain rfl : i = 4 := by omega
      have hq : ¬ ((4 : Int) < 4) := by omega
      rw [mid_all _ _ 16 (rmix_len l fs) (zs_len 16)] at hO
      have HB := Lib.hid (And.intro hO hB)
      clear hO hB hi hlt
      go_wp2_with fail
      go_ret
      exact ⟨rfl, HB.out.1, HB.out.2⟩
end Go.Proofs.Ytiocmebcbhbcmaa
