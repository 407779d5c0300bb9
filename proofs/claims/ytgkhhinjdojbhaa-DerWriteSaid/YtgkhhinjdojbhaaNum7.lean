/-
  Numbers: 'FromBytes'.
-/
import Derived.Test.YtgkhhinjdojbhaaNum6
import Derived.StillTailTactics
namespace Go.Proofs.Ytgkhhinjdojbhaa
open Go.RowKit

/-- A number in N limbs. -/
def limbsN (N v : Nat) : List UInt64 := (List.range N).map fun q => UInt64.ofNat (v / 2 ^ (64 * q))
theorem limbsN_len (N v : Nat) : (limbsN N v).length = N := by unfold limbsN; simp
theorem limbsN_get {N v q : Nat} (h : q < N) : (limbsN N v)[q]? = some (UInt64.ofNat (v / 2 ^ (64 * q))) := by
  unfold limbsN; rw [List.getElem?_map, List.getElem?_range h]; rfl
theorem u64_mul (a b : Nat) : UInt64.ofNat (a + 2 ^ 64 * b) = UInt64.ofNat a := by
  apply UInt64.toNat_inj.1
  rw [UInt64.toNat_ofNat', UInt64.toNat_ofNat', Nat.add_mul_mod_self_left]
theorem u64_mod (a b : Nat) : UInt64.ofNat (a + b) = UInt64.ofNat (a % 2 ^ 64 + b) := by
  apply UInt64.toNat_inj.1
  rw [UInt64.toNat_ofNat', UInt64.toNat_ofNat', Nat.mod_add_mod]
theorem limbsN_step {N v k c : Nat} (hv : v % 256 ^ (k + 1) = 0) (hc : c < 256) (hq : k / 8 < N) :
    limbsN N (v + c * 256 ^ k) = (limbsN N v).set (k / 8) (UInt64.ofNat (v / 2 ^ (64 * (k / 8)) % 2 ^ 64 + c * 2 ^ (k % 8 * 8))) := by
  obtain ⟨t, rfl⟩ : ∃ t, v = 256 ^ (k + 1) * t := ⟨v / 256 ^ (k + 1), by have := Nat.div_add_mod v (256 ^ (k + 1)); omega⟩
  have e256 : ∀ n, (256 : Nat) ^ n = 2 ^ (8 * n) := fun n => by rw [Nat.pow_mul]
  refine List.ext_getElem? (fun j => ?_)
  rw [List.getElem?_set, limbsN_len]
  by_cases hj : j < N
  · rw [limbsN_get hj]
    by_cases e : k / 8 = j
    · subst e
      rw [if_pos rfl, if_pos hq, ← u64_mod]
      congr 2
      rw [e256 k, show 8 * k = k % 8 * 8 + 64 * (k / 8) by omega, Nat.pow_add 2 (k % 8 * 8), ← Nat.mul_assoc c]
      exact Nat.add_mul_div_right _ _ (Nat.pow_pos (by omega))
    · rw [if_neg e, limbsN_get hj]
      congr 1
      by_cases hlt : k / 8 < j
      · congr 1
        have hlt2 : c * 256 ^ k < 256 ^ (k + 1) := by
          rw [Nat.pow_succ, Nat.mul_comm]
          exact Nat.mul_lt_mul_of_pos_left hc (Nat.pow_pos (by omega))
        obtain ⟨s, hs⟩ : ∃ s, 64 * j = 8 * (k + 1) + s := ⟨64 * j - 8 * (k + 1), by omega⟩
        rw [hs, Nat.pow_add 2, ← e256 (k + 1), ← Nat.div_div_eq_div_mul, ← Nat.div_div_eq_div_mul]
        congr 1
        have hpos : 0 < 256 ^ (k + 1) := Nat.pow_pos (by omega)
        rw [Nat.mul_div_cancel_left _ hpos, Nat.mul_add_div hpos, Nat.div_eq_of_lt hlt2, Nat.add_zero]
      · obtain ⟨s, hs⟩ : ∃ s, 8 * k = 64 * j + (64 + s) := ⟨8 * k - 64 * j - 64, by omega⟩
        have hpos : 0 < 2 ^ (64 * j) := Nat.pow_pos (by omega)
        have e1 : (256 ^ (k + 1) * t + c * 256 ^ k) / 2 ^ (64 * j) = 256 ^ (k + 1) * t / 2 ^ (64 * j) + 2 ^ 64 * (c * 2 ^ s) := by
          rw [e256 k, hs, Nat.pow_add 2 (64 * j), show c * (2 ^ (64 * j) * 2 ^ (64 + s)) = 2 ^ (64 * j) * (2 ^ 64 * (c * 2 ^ s)) by
            rw [Nat.pow_add, Nat.mul_left_comm, Nat.mul_left_comm c]]
          exact Nat.add_mul_div_left _ _ hpos
        rw [e1, u64_mul]
  · rw [List.getElem?_eq_none (by rw [limbsN_len]; omega), if_neg (by omega), List.getElem?_eq_none (by rw [limbsN_len]; omega)]
theorem limbsN_zero (N : Nat) : limbsN N 0 = List.replicate N 0 := by
  unfold limbsN
  rw [show (fun q => UInt64.ofNat (0 / 2 ^ (64 * q))) = fun _ => (0 : UInt64) by funext q; rw [Nat.zero_div]; rfl, List.map_const', List.length_range]
theorem limbsN_succ (N v : Nat) : limbsN (N + 1) v = UInt64.ofNat v :: limbsN N (v / 2 ^ 64) := by
  unfold limbsN
  rw [List.range_succ_eq_map, List.map_cons, List.map_map]
  congr 1
  · rw [Nat.mul_zero, Nat.pow_zero, Nat.div_one]
  · refine List.map_congr_left (fun q _ => ?_)
    show UInt64.ofNat (v / 2 ^ (64 * (q + 1))) = _
    rw [Nat.mul_add, Nat.mul_one, Nat.add_comm, Nat.pow_add, Nat.div_div_eq_div_mul]
theorem valL_limbsN : ∀ (N v : Nat), v < 2 ^ (64 * N) → valL (limbsN N v) = v
  | 0, v, h => by simp at h; subst h; rfl
  | N + 1, v, h => by
    rw [limbsN_succ, valL, valL_limbsN N (v / 2 ^ 64) (by rw [Nat.mul_add, Nat.mul_one, Nat.pow_add] at h; rw [Nat.div_lt_iff_lt_mul (by decide)]; exact h), UInt64.toNat_ofNat']
    omega
/-- What stands behind i bytes. -/
def vAt (b : List UInt8) (i : Nat) : Nat := beVal (b.take i) * 256 ^ (b.length - i)
theorem vAt_zero (b : List UInt8) : vAt b 0 = 0 := by unfold vAt; simp [beVal]
theorem vAt_full (b : List UInt8) : vAt b b.length = beVal b := by unfold vAt; simp
theorem vAt_step {b : List UInt8} {i k : Nat} {x : UInt8} (h : b[i]? = some x) (hk : b.length - 1 - i = k) : vAt b (i + 1) = vAt b i + x.toNat * 256 ^ k ∧ vAt b i % 256 ^ (k + 1) = 0 := by
  have hi : i < b.length := (List.getElem?_eq_some_iff.1 h).1
  unfold vAt
  have e : b.length - i = k + 1 := by omega
  have e2 : b.length - (i + 1) = k := by omega
  rw [e, e2]
  refine ⟨?_, Nat.mul_mod_left _ _⟩
  rw [List.take_add_one, h, Option.toList_some, beVal_snoc, Nat.add_mul, Nat.pow_succ, Nat.mul_assoc, Nat.mul_comm 256]
theorem vhigh_mod {v k : Nat} (hv : v % 256 ^ (k + 1) = 0) : v / 2 ^ (64 * (k / 8)) % 2 ^ 64 % 2 ^ (8 * (k % 8 + 1)) = 0 := by
  rw [Nat.mod_mod_of_dvd _ (Nat.pow_dvd_pow 2 (by omega))]
  obtain ⟨t, rfl⟩ : ∃ t, v = 256 ^ (k + 1) * t := ⟨v / 256 ^ (k + 1), by have := Nat.div_add_mod v (256 ^ (k + 1)); omega⟩
  have e : (256 : Nat) ^ (k + 1) = 2 ^ (64 * (k / 8)) * 2 ^ (8 * (k % 8 + 1)) := by
    rw [← Nat.pow_add 2, show 64 * (k / 8) + 8 * (k % 8 + 1) = 8 * (k + 1) by omega, Nat.pow_mul]
  rw [e, Nat.mul_assoc, Nat.mul_div_cancel_left _ (Nat.pow_pos (by omega))]
  exact Nat.mul_mod_right _ _
theorem flatU : ∀ l : List UInt64, List.flatMap Ucells l = l.map fun x => .int .u64 (x.toNat : Int)
  | [] => rfl
  | x :: l => by rw [List.flatMap_cons, flatU l]; rfl
theorem make_nat (n : Nat) (hn : n ≤ 281474976710) (w : World) : (Instr.makeSlice 38 (.int .i64 (n : Int)) (.int .i64 (n : Int))).run Try.prog w = .ok (.slice (some ⟨w.heap.size, 0, none⟩) n n) (w.alloc (.cells (madeCells #[.int .u64 0] n) 58)) := by
  obtain ⟨i0, hi, hz0, hz1, hz2⟩ := info_parts (show (Try.prog.info? 58).map (fun i => (i.zero, i.size, i.bytes)) = some (some (.int .u64 0), 1, 8) by kernel_rfl)
  have hr := run_make (P := Try.prog) w 38 58 i0 (.int .u64 0) Try.underlying38 hi hz0 .i64 .i64 n n (by omega) (by omega) (by rw [hz2]; omega) (by omega)
  simp only [Int.toNat_natCast, hz1, Nat.mul_one] at hr
  exact hr
theorem or_u64 (a c r : Nat) (hr : r < 8) (hc : c < 256) (ha : a < 2 ^ 64) (h0 : a % 2 ^ (8 * (r + 1)) = 0) : bits .or .u64 (a : Int) ((c : Int) * 2 ^ (r * 8)) = (((a + c * 2 ^ (r * 8)) : Nat) : Int) ∧ a + c * 2 ^ (r * 8) < 2 ^ 64 := by
  obtain ⟨t, rfl⟩ : ∃ t, a = 2 ^ (8 * (r + 1)) * t := ⟨a / 2 ^ (8 * (r + 1)), by have := Nat.div_add_mod a (2 ^ (8 * (r + 1))); omega⟩
  have hlt : c * 2 ^ (r * 8) < 2 ^ (8 * (r + 1)) := by
    rw [show 8 * (r + 1) = 8 + r * 8 by omega, Nat.pow_add]
    exact Nat.mul_lt_mul_of_pos_right hc (Nat.pow_pos (by omega))
  have hor := Nat.two_pow_add_eq_or_of_lt hlt t
  have hle : 2 ^ (8 * (r + 1)) ≤ 2 ^ 64 := Nat.pow_le_pow_right (by omega) (by omega)
  have hsum : 2 ^ (8 * (r + 1)) * t + c * 2 ^ (r * 8) < 2 ^ 64 := by rw [hor]; exact Nat.or_lt_two_pow ha (Nat.lt_of_lt_of_le hlt hle)
  refine ⟨?_, hsum⟩
  have e2 : ((c : Int) * 2 ^ (r * 8)) = ((c * 2 ^ (r * 8) : Nat) : Int) := by simp
  rw [e2, hor]
  have hb : c * 2 ^ (r * 8) < 2 ^ 64 := Nat.lt_of_lt_of_le hlt hle
  have h1 : (BitVec.ofInt 64 ((2 ^ (8 * (r + 1)) * t : Nat) : Int)).toNat = 2 ^ (8 * (r + 1)) * t := by
    rw [BitVec.ofInt_natCast, BitVec.toNat_ofNat]; exact Nat.mod_eq_of_lt ha
  have h2 : (BitVec.ofInt 64 ((c * 2 ^ (r * 8) : Nat) : Int)).toNat = c * 2 ^ (r * 8) := by
    rw [BitVec.ofInt_natCast, BitVec.toNat_ofNat]; exact Nat.mod_eq_of_lt hb
  show IntKind.u64.wrap ((BitVec.ofInt 64 _ ||| BitVec.ofInt 64 _).toNat : Int) = _
  rw [BitVec.toNat_or, h1, h2]
  have := Nat.or_lt_two_pow ha hb
  exact IntWalk.u64_in _ (by omega)
set_option maxRecDepth 100000 in
set_option maxHeartbeats 2000000 in
theorem fromBytes_any (A : Option Addr) (m c : Nat) (b : List UInt8) (w : World) (h : Rd w A m c b) (hm : m ≤ 1000000) :
    Calls Try.prog 46 #[.slice A m c] w fun e w' => ∃ g n1 c1, e = .returned (.slice (some ⟨g, 0, none⟩) n1 c1) ∧ w.heap.size ≤ g ∧ n1 ≤ c1 ∧ c1 ≤ maxLen ∧ RdC Try.eU w' (some ⟨g, 0, none⟩) n1 (trimL (limbsN ((m + 7) / 8) (beVal b))) ∧ Below w.heap.size w w' := by
  obtain ⟨X, hX⟩ : ∃ X, w.heap.size = X := ⟨_, rfl⟩
  obtain ⟨N, hN⟩ : ∃ N, (m + 7) / 8 = N := ⟨_, rfl⟩
  have hq0 : ((m : Int) + 7).tdiv 8 = (N : Int) := by rw [Int.tdiv_eq_ediv_of_nonneg (by omega)]; omega
  rw [hN]
  have hbm := h.1
  have hNb : N ≤ 200000 := by omega
  have hmk := make_nat N (by omega) w
  obtain ⟨w1, hw1⟩ : ∃ w1, w.alloc (.cells (madeCells #[.int .u64 0] N) 58) = w1 := ⟨_, rfl⟩
  have hb1 : Below w.heap.size w w1 := by rw [← hw1]; exact (Below.refl _ _).alloc (Nat.le_refl _) _
  have hR1 : Row w1 X 58 N N ((limbsN N (vAt b 0)).map fun x => .int .u64 (x.toNat : Int)) := by
    rw [vAt_zero, limbsN_zero, List.map_replicate, ← hw1, ← hX]
    refine ⟨by simp, Nat.le_refl _, by unfold maxLen; omega, _, Blk.new _ _ _, by simp [size_madeCells], ?_⟩
    rw [madeCells_one]
    simp
  rw [hw1, hX] at hmk
  have H1 := Lib.hid (And.intro h (And.intro hR1 (And.intro hb1 hX)))
  have HN := Lib.hid hN
  have HM := Lib.hid hbm
  clear h hR1 hb1 hN hbm
  go_enter Try.func46, Try.ntmps46
  go_wp2_with fail
  try rw [hw1]
  try rw [hX]
  go_wp2_with fail
  go_loopw [14] (fun kk wr => ∃ i : Nat, i ≤ m ∧ kk = .int .i64 (i : Int) ∧ Row wr X 58 N N ((limbsN N (vAt b i)).map fun x => .int .u64 (x.toNat : Int)) ∧ Turn [X] w1 wr) (fun kk _ => m - (intOf kk).toNat)
  case atStart => exact ⟨0, by omega, rfl, H1.out.2.1, Turn.refl _ _⟩
  case round =>
    obtain ⟨i, hi, rfl, hR, hT⟩ := hrel
    have hbw : Below X w wr := by have := below_turn (H1.out.2.2.1) hT (fun t ht => by simp at ht; have := H1.out.2.2.2; omega) H1.out.2.2.1.size; rwa [H1.out.2.2.2] at this
    have hRb : Rd wr A m c b := H1.out.1.below (by rw [H1.out.2.2.2]; exact hbw)
    by_cases hlt : i < m
    · have hlti : (i : Int) < m := by omega
      have hltd : decide ((i : Int) < (m : Int)) = true := decide_eq_true hlti
      have hi0 : ¬ ((i : Int) < 0) := by omega
      obtain ⟨g, off, hAe, hat⟩ := hRb.addr (by omega)
      subst hAe
      obtain ⟨x, hx⟩ : ∃ x, b[i]? = some x := ⟨_, List.getElem?_eq_getElem (by have := HM.out; omega)⟩
      have cx := hat.2 i x hx
      unfold B at cx
      obtain ⟨k, hk⟩ : ∃ k, m - 1 - i = k := ⟨_, rfl⟩
      have hk1 : IntKind.i64.wrap ((m : Int) - 1 - i) = k := (IntWalk.i64_in _ (by omega)).trans (by omega)
      have hk1' : (m : Int) - 1 - i = k := by omega
      obtain ⟨st, sv⟩ := vAt_step (k := k) hx (by rw [← HM.out]; exact hk)
      obtain ⟨q, hqq⟩ : ∃ q, k / 8 = q := ⟨_, rfl⟩
      obtain ⟨r, hrr⟩ : ∃ r, k % 8 = r := ⟨_, rfl⟩
      have hk2 : (k : Int).tdiv 8 = (q : Int) := by rw [Int.tdiv_eq_ediv_of_nonneg (by omega)]; omega
      have hk3 : (k : Int).tmod 8 = (r : Int) := by rw [Int.tmod_eq_emod_of_nonneg (by omega)]; omega
      have hk4 : IntKind.i64.wrap ((r : Int) * 8) = (r : Int) * 8 := IntWalk.i64_in _ (by omega)
      have hr8 : r < 8 := by omega
      have hk5 : IntKind.i64.wrap (q : Int) = q := IntWalk.i64_in _ (by omega)
      have hk6 : IntKind.i64.wrap (r : Int) = r := IntWalk.i64_in _ (by omega)
      have hr80 : (0 : Int) ≤ (r : Int) * 8 := by omega
      have hr81 : (r : Int) * 8 < 64 := by omega
      have hr82 : ((r : Int) * 8).toNat = r * 8 := by omega
      have hqN : q < N := by have := HN.out; omega
      have hq0 : ¬ ((q : Int) < 0) := by omega
      have hqi : (q : Int) < N := by omega
      have hq00 : (0 : Int) ≤ q := by omega
      have hl := limbsN_step (N := N) sv x.toNat_lt (by rw [hqq]; exact hqN)
      rw [hqq, hrr, ← st] at hl
      obtain ⟨V, hV⟩ : ∃ V, vAt b i / 2 ^ (64 * q) % 2 ^ 64 = V := ⟨_, rfl⟩
      have hVl : V < 2 ^ 64 := by rw [← hV]; exact Nat.mod_lt _ (by decide)
      have hV0 : V % 2 ^ (8 * (r + 1)) = 0 := by rw [← hV, ← hrr, ← hqq]; exact vhigh_mod sv
      obtain ⟨or1, or2⟩ := or_u64 V x.toNat r hr8 x.toNat_lt hVl hV0
      rw [hV] at hl
      have cq := hR.get (i := q) (v := .int .u64 (V : Int)) (by rw [List.getElem?_map, limbsN_get hqN, ← hV]; simp [UInt64.toNat_ofNat'])
      have fq := hR.frozen q
      have hxl := x.toNat_lt
      obtain ⟨xn, hxn⟩ : ∃ xn, x.toNat = xn := ⟨_, rfl⟩
      rw [hxn] at cx hl or1 or2 hxl
      have hxw : IntKind.u64.wrap (xn : Int) = xn := IntWalk.u64_in _ (by omega)
      have hsh : IntKind.u64.wrap ((xn : Int) * 2 ^ (r * 8)) = (xn : Int) * 2 ^ (r * 8) := IntWalk.u64_in _ (by
        have e2 : ((xn : Int) * 2 ^ (r * 8)) = ((xn * 2 ^ (r * 8) : Nat) : Int) := by simp
        rw [e2]; omega)
      have HS := Lib.hid (And.intro hR (And.intro hT (And.intro hl or2)))
      clear hR hT hl or2 hbw hRb hat hx hk hqq hrr st sv hV hV0 hxn
      go_wp2_with fail
      go_still_tail 13, (by kernel_rfl)
      go_wp2_with fail
      have hR2 := HS.out.1.set_ q (.int .u64 ((V + xn * 2 ^ (r * 8) : Nat) : Int))
      rw [← show ((UInt64.ofNat (V + xn * 2 ^ (r * 8))).toNat : Int) = ((V + xn * 2 ^ (r * 8) : Nat) : Int) by rw [UInt64.toNat_ofNat', Nat.mod_eq_of_lt HS.out.2.2.2], ← List.map_set (f := fun x : UInt64 => (Value.int .u64 (x.toNat : Int))), ← HS.out.2.2.1, UInt64.toNat_ofNat', Nat.mod_eq_of_lt HS.out.2.2.2] at hR2
      have ec : ((V + xn * 2 ^ (r * 8) : Nat) : Int) = (V : Int) + (xn : Int) * 2 ^ (r * 8) := by simp
      rw [ec] at hR2
      go_roundw
      case measure => simp [intOf]; omega
      exact ⟨i + 1, by omega, by simp, hR2, (HS.out.2.1.setCell (.inl (by simp)) _).drew⟩
    · obtain rfl : i = m := by omega
      have hlti : ¬ (i : Int) < i := by omega
      have hltd : decide ((i : Int) < (i : Int)) = false := decide_eq_false hlti
      have hvf := vAt_full b
      rw [← HM.out] at hvf
      rw [hvf] at hR
      have hrd : RdC Try.eU wr (some ⟨X, 0, none⟩) N (limbsN N (beVal b)) := ⟨limbsN_len _ _, .inr ⟨X, 0, rfl, hR.lt, fun j u hu => by
        rw [Nat.zero_add]
        refine hR.get ?_
        rw [← hu]
        show _ = (List.flatMap Ucells _)[j]?
        rw [show List.flatMap Ucells (limbsN N (beVal b)) = (limbsN N (beVal b)).map fun x => .int .u64 (x.toNat : Int) from flatU _]⟩⟩
      have ht := trim_any (some ⟨X, 0, none⟩) N N _ wr hrd ⟨Nat.le_refl _, by unfold maxLen; omega⟩ (fun h => by cases h)
      obtain ⟨hle, hte⟩ := trimL_take (limbsN N (beVal b))
      have hrd2 := hrd.take (trimL (limbsN N (beVal b))).length (by have := limbsN_len N (beVal b); omega)
      rw [← hte] at hrd2
      have HS := Lib.hid (And.intro hrd2 (And.intro hbw (by rw [limbsN_len] at hle; exact hle)))
      clear hR hT hbw hRb hrd hrd2 hvf hle hte
      go_wp2_with fail
      refine ht.mono ?_
      rintro e w9 ⟨rfl, rfl⟩
      go_wp2_with fail
      go_ret
      exact ⟨X, _, N, rfl, by first | omega | (rw [hX]; omega) | exact Nat.le_refl _, HS.out.2.2, by unfold maxLen; omega, HS.out.1, by first | exact HS.out.2.1 | (rw [hX]; exact HS.out.2.1)⟩
end Go.Proofs.Ytgkhhinjdojbhaa
