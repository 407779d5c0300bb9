/-
  DER: tag and length are read.
-/
import Derived.Test.YtgkhhinjdojbhaaDerPE
import Derived.Test.YtgkhhinjdojbhaaDerA
import Derived.Test.YtgkhhinjdojbhaaShort
import Derived.Deep.DeepCutAuto
import Derived.Deep.QuietTactic
import Derived.BigQuiet
namespace Go.Proofs.Ytgkhhinjdojbhaa
open Go.RowKit

theorem belN {B : Nat} {w w' : World} (h : Below B w w') (n : Nat) : Below B w (w'.drewN n) := ⟨h.os, h.tape, h.output, h.size, h.block⟩
theorem bits_or_i64 (a b : Nat) (ha : a < 9223372036854775808) (hb : b < 9223372036854775808) : bits .or .i64 (a : Int) (b : Int) = ((a ||| b : Nat) : Int) := by
  have hx : a ||| b < 2 ^ 63 := Nat.or_lt_two_pow (by omega) (by omega)
  have h1 : (BitVec.ofInt 64 (a : Int)).toNat = a := by
    rw [BitVec.ofInt_natCast, BitVec.toNat_ofNat]; exact Nat.mod_eq_of_lt (by omega)
  have h2 : (BitVec.ofInt 64 (b : Int)).toNat = b := by
    rw [BitVec.ofInt_natCast, BitVec.toNat_ofNat]; exact Nat.mod_eq_of_lt (by omega)
  show IntKind.i64.wrap ((BitVec.ofInt 64 (a : Int) ||| BitVec.ofInt 64 (b : Int)).toNat : Int) = _
  rw [BitVec.toNat_or, h1, h2, IntWalk.i64_in _ (by omega)]
theorem or_be (N : Nat) (x : UInt8) (h : N < 16777216) : bits .or .i64 ((N : Int) * 256) (wrap64 (x.toNat : Int)) = ((N * 256 + x.toNat : Nat) : Int) := by
  have hx := x.toNat_lt
  have e1 : wrap64 (x.toNat : Int) = (x.toNat : Int) := by unfold wrap64; omega
  rw [e1, show (N : Int) * 256 = ((N * 256 : Nat) : Int) by omega, bits_or_i64 _ _ (by omega) (by omega)]
  have := Nat.two_pow_add_eq_or_of_lt (i := 8) (b := x.toNat) (by omega) N
  rw [show 2 ^ 8 * N = N * 256 by omega] at this
  rw [← this]
theorem clone_own (A : Option Addr) (m c : Nat) (l : List UInt8) (w : World) (h : Rd w A m c l) (hm : m ≤ 100000000000) :
    Calls Try.prog 56 #[.slice A m c] w fun e w' => ∃ A' n' c', e = .returned (.slice A' n' c') ∧ Own w' w.heap.size (.slice A' n' c') l ∧ Below w.heap.size w w' := by
  obtain ⟨h1, h2, h3, ⟨rfl, hc⟩ | ⟨b, off, rfl, h4⟩⟩ := h
  · obtain rfl : m = 0 := by omega
    obtain rfl : l = [] := List.length_eq_zero_iff.1 h1.symm
    subst hc
    refine (clone_nil w).mono ?_
    rintro e w' ⟨rfl, rfl⟩
    exact ⟨_, _, _, rfl, Own.nil _ _, Below.refl _ _⟩
  · refine (clone_any b off m c l w h4 h1 (by omega)).mono ?_
    rintro e w' ⟨g, c', rfl, ho, hb⟩
    exact ⟨_, _, _, rfl, ho, hb⟩

theorem results_tmp4 {fn : Func} {t u v x : Tmp} (h : fn.results = #[.tmp t, .tmp u, .tmp v, .tmp x]) (tmps : Array Value) (P : Program) (w : World) :
    (results fn tmps).run P w = .ok (.tuple #[tmps.getD t undef, tmps.getD u undef, tmps.getD v undef, tmps.getD x undef]) w := by
  simp [results, h]
/-- The one address lies in the other one's block. -/
def From (A A' : Option Addr) : Prop := ∀ ad', A' = some ad' → ∃ ad, A = some ad ∧ ad'.block = ad.block
theorem From.refl (A : Option Addr) : From A A := fun ad h => ⟨ad, h, rfl⟩
theorem From.trans {A B C : Option Addr} (h : From A B) (k : From B C) : From A C := fun ad h3 => by
  obtain ⟨ad2, h2, e2⟩ := k ad h3
  obtain ⟨ad1, h1, e1⟩ := h ad2 h2
  exact ⟨ad1, h1, e2.trans e1⟩
theorem From.cut (A : Option Addr) (c k : Nat) : From A (A.map (·.add k)) := fun ad' had => by
  cases A with
  | none => cases had
  | some ad =>
    simp only [Option.map_some, Option.some.injEq] at had
    refine ⟨ad, rfl, ?_⟩
    rw [← had]
    unfold Addr.add; split <;> rfl
/-- What head gives. -/
def HeadPost (A : Option Addr) (w' : World) (e : Ending) : Option (Int × List UInt8 × List UInt8) → Prop
  | none => e = .returned (.tuple #[.int .i64 0, .slice none 0 0, .slice none 0 0, .bool false])
  | some (tag, held, rest) => ∃ A1 n1 c1 A2 n2 c2, e = .returned (.tuple #[.int .i64 tag, .slice A1 n1 c1, .slice A2 n2 c2, .bool true]) ∧ Rd w' A1 n1 c1 held ∧ Rd w' A2 n2 c2 rest ∧ From A A1 ∧ From A A2
theorem i64_nat {n : Nat} (h : n < 9223372036854775808) : IntKind.i64.wrap (n : Int) = n := IntWalk.i64_in _ (by omega)
theorem Rd.drewN {w : World} {A : Option Addr} {m c : Nat} {l : List UInt8} (h : Rd w A m c l) (n : Nat) : Rd (w.drewN n) A m c l := h
set_option maxRecDepth 100000 in
set_option maxHeartbeats 8000000 in
theorem head_any (A : Option Addr) (m c : Nat) (b : List UInt8) (w : World) (h : Rd w A m c b) (hm : m ≤ 1000000) :
    Calls Try.prog 55 #[.slice A m c] w fun e w' => HeadPost A w' e (headW b) ∧ Below w.heap.size w w' := by
  obtain ⟨ans, hans⟩ : ∃ ans, headW b = ans := ⟨_, rfl⟩
  rw [hans]
  have hbm := h.1
  by_cases h2 : m < 2
  · have t1 : (m : Int) < 2 := by omega
    have t1d : decide ((m : Int) < 2) = true := decide_eq_true t1
    have hans2 := Lib.hid (show ans = none from hans.symm.trans (match b, hbm with
      | [], _ => rfl
      | [_], _ => rfl
      | x :: y :: l, h => by simp only [List.length_cons] at h; omega))
    clear hbm h
    go_enter Try.func55, Try.ntmps55
    go_wp2_with fail
    (try simp only [Exit.inBlock, Exit.then]); refine bodyPost_ret (results_tmp4 rfl _ _ _) rfl ?_
    rw [hans2.out]
    exact ⟨rfl, Below.refl _ _⟩
  have t1 : ¬ (m : Int) < 2 := by omega
  have t1d : decide ((m : Int) < 2) = false := decide_eq_false t1
  obtain ⟨t, l, r, rfl⟩ : ∃ t l r, b = t :: l :: r := match b, hbm with
    | [], h => by simp only [List.length_nil] at h; omega
    | [_], h => by simp only [List.length_cons, List.length_nil] at h; omega
    | x :: y :: l, _ => ⟨x, y, l, rfl⟩
  have HRL := Lib.hid (show r.length ≤ 1000000 by simp only [List.length_cons] at hbm; omega)
  clear hbm
  obtain ⟨g, off, rfl, hat⟩ := h.addr (by omega)
  have c0 := hat.2 0 t rfl
  have c1 := hat.2 1 l rfl
  rw [Nat.add_zero] at c0
  unfold B at c0 c1
  rw [headW_eq] at hans
  have htl := t.toNat_lt
  have hll := l.toNat_lt
  obtain ⟨T, hT⟩ : ∃ T, t.toNat = T := ⟨_, rfl⟩
  obtain ⟨L, hL⟩ : ∃ L, l.toNat = L := ⟨_, rfl⟩
  rw [hT] at c0 hans htl
  rw [hL] at c1 hans hll
  have hwT := i64_nat (n := T) (by omega)
  have hwL := i64_nat (n := L) (by omega)
  have i0 : ¬ ((m : Int) ≤ 0) := by omega
  have i1 : (1 : Int) < m := by omega
  have i00 : (0 : Int) < m := by omega
  have i2 : (2 : Int) ≤ m := by omega
  have h63 := h.2.2.1
  have hmc := h.2.1
  have hr2 := h.cut (k := 2) (by omega)
  rw [List.drop_succ_cons, List.drop_succ_cons, List.drop_zero] at hr2
  unfold maxLen at h63
  have HC := Lib.hid hr2
  clear h hat hT hL hr2
  go_enter Try.func55, Try.ntmps55
  go_wp2_with fail
  go_cut [6, 7, 8] (fun s6 s7 s8 wx => s6 = .int .i64 (T : Int) ∧ s7 = .int .i64 (L : Int) ∧ ∃ A2 n2 c2, s8 = .slice A2 n2 c2 ∧ Rd wx A2 n2 c2 r ∧ From (some ⟨g, off, none⟩) A2 ∧ Below w.heap.size w wx)
  case first =>
    by_cases hc2 : c = 2
    · subst hc2
      go_quiet (fail)
      go_wp2_with fail
      go_meet
      exact ⟨rfl, rfl, _, _, _, rfl, (by have h9 := HC.out; have hm2 : m = 2 := (by omega); rw [hm2, if_pos trivial] at h9; exact h9.drewN nq), From.refl _, belN (Below.refl _ _) nq⟩
    · have HC2 := HC.out
      rw [if_neg hc2] at HC2
      have HC2 := Lib.hid HC2
      go_quiet (fail)
      go_wp2_with fail
      go_meet
      exact ⟨rfl, rfl, _, _, _, rfl, HC2.out.drewN nq, (fun ad' h => ⟨⟨g, off, none⟩, rfl, by injection h with h; rw [← h]⟩), belN (Below.refl _ _) nq⟩
  case rest =>
    obtain ⟨rfl, rfl, A2, n2, c2, rfl, hr2, hA2, hB2⟩ := hcut
    generalize wc = w2 at *
    have HR := Lib.hid (And.intro hr2 (And.intro hA2 hB2))
    have hn2' := hr2.1
    have hn2c := hr2.2.1
    have hc2m := hr2.2.2.1
    unfold maxLen at hc2m
    clear c0 c1 hr2 hA2 hB2
    by_cases h128 : L < 128
    · have t2 : ¬ (128 : Int) ≤ L := by omega
      have t2d : decide ((128 : Int) ≤ (L : Int)) = false := decide_eq_false t2
      rw [if_pos h128] at hans
      have HANS := Lib.hid (show ans = if r.length < L then none else some ((T : Int), r.take L, r.drop L) by
        rw [← hans]
        by_cases h : L ≤ r.length
        · rw [if_pos h, if_neg (by omega)]
        · rw [if_neg h, if_pos (by omega)])
      clear hans hn2'
      by_cases hbig : n2 < L
      · have t9 : (n2 : Int) < L := by omega
        have t9d : decide (n2 < L) = true := decide_eq_true hbig
        have hans2 := Lib.hid (HANS.out.trans (if_pos (by have := HR.out.1.1; omega)))
        go_wp2_with fail
        (try simp only [Exit.inBlock, Exit.then]); refine bodyPost_ret (results_tmp4 rfl _ _ _) rfl ?_
        rw [hans2.out]
        exact ⟨rfl, HR.out.2.2⟩
      · have t9 : (L : Int) ≤ n2 := by omega
        have t9d : decide (n2 < L) = false := decide_eq_false hbig
        have hans2 := Lib.hid (HANS.out.trans (if_neg (by have := HR.out.1.1; omega)))
        have HF := Lib.hid (HR.out.1.front (k := L) (by omega))
        have HD := Lib.hid (HR.out.1.cut (k := L) (by omega))
        have HFr := Lib.hid (From.cut A2 c2 L)
        by_cases hcn : c2 = L
        · have HD := Lib.hid (show Rd w2 A2 (n2 - L) 0 _ by have h9 := HD.out; rw [if_pos hcn, show c2 - L = 0 by omega] at h9; exact h9)
          have HK := Lib.hid hcn
          clear hcn
          have hcn : c2 - L = 0 := by have := HK.out; omega
          have hcn2 : (c2 == L) = true := by have := HK.out; simp [this]
          have hcn3 : (c2 = L) = True := eq_true HK.out
          go_wp2_with fail
          go_quiet (fail)
          go_wp2_with fail
          (try simp only [Exit.inBlock, Exit.then]); refine bodyPost_ret (results_tmp4 rfl _ _ _) rfl ?_
          rw [hans2.out]
          exact ⟨⟨A2, L, c2, A2, n2 - L, 0, rfl, HF.out, HD.out, HR.out.2.1, HR.out.2.1⟩, belN HR.out.2.2 _⟩
        · have HD := Lib.hid (show Rd w2 (A2.map (·.add L)) (n2 - L) (c2 - L) _ by have h9 := HD.out; rw [if_neg hcn] at h9; exact h9)
          go_wp2_with fail
          go_quiet (fail)
          go_wp2_with fail
          (try simp only [Exit.inBlock, Exit.then]); refine bodyPost_ret (results_tmp4 rfl _ _ _) rfl ?_
          rw [hans2.out]
          exact ⟨⟨A2, L, c2, A2.map (·.add L), n2 - L, c2 - L, rfl, HF.out, HD.out, HR.out.2.1, HR.out.2.1.trans HFr.out⟩, belN HR.out.2.2 _⟩
    · have t2 : (128 : Int) ≤ L := by omega
      have t2d : decide ((128 : Int) ≤ (L : Int)) = true := decide_eq_true t2
      rw [if_neg h128] at hans
      obtain ⟨K, hK⟩ : ∃ K, L - 128 = K := ⟨_, rfl⟩
      rw [hK] at hans
      have hKi : (L : Int) - 128 = K := by omega
      clear hK
      by_cases g1 : K < 1
      · have t3 : (K : Int) < 1 := by omega
        have t3d : decide ((K : Int) < 1) = true := decide_eq_true t3
        have hans2 := Lib.hid (hans.symm.trans (if_pos (.inl g1)))
        clear hans hn2'
        go_wp2_with fail
        (try simp only [Exit.inBlock, Exit.then]); refine bodyPost_ret (results_tmp4 rfl _ _ _) rfl ?_
        rw [hans2.out]
        exact ⟨rfl, HR.out.2.2⟩
      have t3 : ¬ (K : Int) < 1 := by omega
      have t3d : decide ((K : Int) < 1) = false := decide_eq_false t3
      by_cases g2 : 3 < K
      · have t4 : (3 : Int) < K := by omega
        have t4d : decide ((3 : Int) < (K : Int)) = true := decide_eq_true t4
        have hans2 := Lib.hid (hans.symm.trans (if_pos (.inr (.inl g2))))
        clear hans hn2'
        go_wp2_with fail
        (try simp only [Exit.inBlock, Exit.then]); refine bodyPost_ret (results_tmp4 rfl _ _ _) rfl ?_
        rw [hans2.out]
        exact ⟨rfl, HR.out.2.2⟩
      have t4 : ¬ (3 : Int) < K := by omega
      have t4d : decide ((3 : Int) < (K : Int)) = false := decide_eq_false t4
      by_cases g3 : n2 < K
      · have t5 : (n2 : Int) < K := by omega
        have t5d : decide (n2 < K) = true := decide_eq_true g3
        have hans2 := Lib.hid (hans.symm.trans (if_pos (.inr (.inr (.inl (by omega))))))
        clear hans hn2'
        go_wp2_with fail
        (try simp only [Exit.inBlock, Exit.then]); refine bodyPost_ret (results_tmp4 rfl _ _ _) rfl ?_
        rw [hans2.out]
        exact ⟨rfl, HR.out.2.2⟩
      have t5 : (K : Int) ≤ n2 := by omega
      have t5d : decide (n2 < K) = false := decide_eq_false g3
      obtain ⟨x, r', rfl⟩ : ∃ x r', r = x :: r' := by
        cases r with
        | nil => simp only [List.length_nil] at hn2'; omega
        | cons x r' => exact ⟨x, r', rfl⟩
      obtain ⟨g', off', rfl, hat⟩ := HR.out.1.addr (by omega)
      have c3 := hat.2 0 x rfl
      rw [Nat.add_zero] at c3
      unfold B at c3
      have j0 : ¬ ((n2 : Int) ≤ 0) := by omega
      have j1 : (0 : Int) < n2 := by omega
      by_cases g4 : x = 0
      · subst g4
        have c3 : w2.cell? ⟨g', off', none⟩ = some (.int .u8 0) := c3
        have hans2 := Lib.hid (hans.symm.trans (if_pos (.inr (.inr (.inr rfl)))))
        clear hans hn2' hat
        go_wp2_with fail
        (try simp only [Exit.inBlock, Exit.then]); refine bodyPost_ret (results_tmp4 rfl _ _ _) rfl ?_
        rw [hans2.out]
        exact ⟨rfl, HR.out.2.2⟩
      have g4' : x.toNat ≠ 0 := fun e => g4 (UInt8.toNat_inj.1 e)
      rw [if_neg (by simp only [not_or]; exact ⟨g1, g2, by omega, g4⟩)] at hans
      obtain ⟨X, hX⟩ : ∃ X, x.toNat = X := ⟨_, rfl⟩
      rw [hX] at c3 g4'
      have t6 : ¬ ((X : Int) = 0) := by omega
      have t6d : ((X : Int) == 0) = false := by simpa using g4'
      have hs1 := slice_to (some ⟨g', off', none⟩) n2 c2 K HR.out.1.spot (by omega) w2
      have HX := Lib.hid (And.intro hans (And.intro hn2' hat))
      have hKn : K ≤ n2 := by omega
      clear hans hn2' hat hX g4 g4'
      go_wp2_with fail
      go_loopw [7, 51] (fun vv kk wr => ∃ j : Nat, j ≤ K ∧ kk = .int .i64 (j : Int) ∧ vv = .int .i64 ((beVal (((x :: r').take K).take j) : Nat) : Int) ∧ wr = w2) (fun _ kk _ => K - (intOf kk).toNat)
      case atStart => exact ⟨0, by omega, rfl, rfl, rfl⟩
      case round =>
        obtain ⟨j, hj, rfl, rfl, rfl⟩ := hrel
        by_cases hlt : j < K
        · have hi : (j : Int) < K := by omega
          have hd : decide (j < K) = true := decide_eq_true hlt
          have hk0 : ¬ ((j : Int) < 0) := by omega
          obtain ⟨y, hy⟩ : ∃ y, (x :: r')[j]? = some y := ⟨_, List.getElem?_eq_getElem (by have := HX.out.2.1; omega)⟩
          have ck := HX.out.2.2.2 j y hy
          unfold B at ck
          have hyt : ((x :: r').take K)[j]? = some y := by rw [List.getElem?_take, if_pos hlt, hy]
          obtain ⟨N, hN⟩ : ∃ N, beVal (((x :: r').take K).take j) = N := ⟨_, rfl⟩
          have hNl : N < 16777216 := by
            rw [← hN]
            refine Nat.lt_of_lt_of_le (beVal_lt _) (Nat.le_trans (Nat.pow_le_pow_right (by omega) (show _ ≤ 3 by rw [List.length_take, List.length_take]; omega)) (by decide))
          have hnext : beVal (((x :: r').take K).take (j + 1)) = N * 256 + y.toNat := by rw [List.take_add_one, hyt, Option.toList_some, beVal_snoc, hN]
          rw [hN]
          have HY := Lib.hid (And.intro hN hnext)
          clear hy hyt hN hnext
          go_wp2_with fail
          refine ⟨⟨j + 1, by omega, by simp, ?_, trivial⟩, by simp [intOf]; omega⟩
          rw [or_be N y hNl, HY.out.2]
        · obtain rfl : j = K := by omega
          have hi : ¬ (j : Int) < j := by omega
          have hd : decide (j < j) = false := decide_eq_false hlt
          rw [List.take_of_length_le (l := (x :: r').take j) (by rw [List.length_take]; omega)]
          have hVl := beVal_lt ((x :: r').take j)
          rw [show ((x :: r').take j).length = j by rw [List.length_take]; have := HX.out.2.1; omega] at hVl
          have hVl2 := Nat.lt_of_lt_of_le hVl (Nat.pow_le_pow_right (n := 256) (by omega) (show j ≤ 3 by omega))
          have hans := HX.out.1
          obtain ⟨V, hV⟩ : ∃ V, beVal ((x :: r').take j) = V := ⟨_, rfl⟩
          rw [hV] at hans hVl2 ⊢
          clear hVl hV
          have hVl3 : V < 16777216 := hVl2
          clear hVl2
          by_cases g5 : V < 128
          · have t7 : (V : Int) < 128 := by omega
            have t7d : decide ((V : Int) < 128) = true := decide_eq_true t7
            have hans2 := Lib.hid (hans.symm.trans (if_pos g5))
            clear hans
            go_wp2_with fail
            (try simp only [Exit.inBlock, Exit.then]); refine bodyPost_ret (results_tmp4 rfl _ _ _) rfl ?_
            rw [hans2.out]
            exact ⟨rfl, HR.out.2.2⟩
          have t7 : ¬ (V : Int) < 128 := by omega
          have t7d : decide ((V : Int) < 128) = false := decide_eq_false t7
          rw [if_neg g5] at hans
          obtain ⟨A3, n3, c3', hn3, hs3, hr3, hA3⟩ := HR.out.1.cut_ex2 (k := j) (by omega)
          have hs3' := hs3 wr
          have HANS := Lib.hid hans.symm
          have HR := Lib.hid (And.intro hr3 (And.intro (HR.out.2.1.trans hA3) HR.out.2.2))
          have hn3c := hr3.2.1
          have hc3m := hr3.2.2.1
          unfold maxLen at hc3m
          have hn3b : n3 ≤ 1000000 := by have := HRL.out; have := HX.out.2.1; omega
          clear hans hr3 hA3 hs3 hn3
          by_cases hbig : n3 < V
          · have t9 : (n3 : Int) < V := by omega
            have t9d : decide (n3 < V) = true := decide_eq_true hbig
            have hans2 := Lib.hid (HANS.out.trans (if_pos (by have := HR.out.1.1; omega)))
            go_wp2_with fail
            (try simp only [Exit.inBlock, Exit.then]); refine bodyPost_ret (results_tmp4 rfl _ _ _) rfl ?_
            rw [hans2.out]
            exact ⟨rfl, HR.out.2.2⟩
          · have t9 : (V : Int) ≤ n3 := by omega
            have t9d : decide (n3 < V) = false := decide_eq_false hbig
            have hans2 := Lib.hid (HANS.out.trans (if_neg (by have := HR.out.1.1; omega)))
            have HF := Lib.hid (HR.out.1.front (k := V) (by omega))
            have HD := Lib.hid (HR.out.1.cut (k := V) (by omega))
            have HFr := Lib.hid (From.cut A3 c3' V)
            by_cases hcn : c3' = V
            · have HD := Lib.hid (show Rd wr A3 (n3 - V) 0 _ by have h9 := HD.out; rw [if_pos hcn, show c3' - V = 0 by omega] at h9; exact h9)
              have HK := Lib.hid hcn
              clear hcn
              have hcn : c3' - V = 0 := by have := HK.out; omega
              have hcn2 : (c3' == V) = true := by have := HK.out; simp [this]
              have hcn3 : (c3' = V) = True := eq_true HK.out
              go_wp2_with fail
              go_quiet (fail)
              go_wp2_with fail
              (try simp only [Exit.inBlock, Exit.then]); refine bodyPost_ret (results_tmp4 rfl _ _ _) rfl ?_
              rw [hans2.out]
              exact ⟨⟨A3, V, c3', A3, n3 - V, 0, rfl, HF.out, HD.out, HR.out.2.1, HR.out.2.1⟩, belN HR.out.2.2 _⟩
            · have HD := Lib.hid (show Rd wr (A3.map (·.add V)) (n3 - V) (c3' - V) _ by have h9 := HD.out; rw [if_neg hcn] at h9; exact h9)
              go_wp2_with fail
              go_quiet (fail)
              go_wp2_with fail
              (try simp only [Exit.inBlock, Exit.then]); refine bodyPost_ret (results_tmp4 rfl _ _ _) rfl ?_
              rw [hans2.out]
              exact ⟨⟨A3, V, c3', A3.map (·.add V), n3 - V, c3' - V, rfl, HF.out, HD.out, HR.out.2.1, HR.out.2.1.trans HFr.out⟩, belN HR.out.2.2 _⟩
end Go.Proofs.Ytgkhhinjdojbhaa
