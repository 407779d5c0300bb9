/-
  DER: a node is read, by the reference.
-/
import Derived.Test.YtgkhhinjdojbhaaDer15
namespace Go.Proofs.Ytgkhhinjdojbhaa
open Go.RowKit

/-- What the reference's reading of a node gives. -/
def GetPost (w w' : World) (e : Ending) : Option (Nd × List UInt8) → Prop
  | none => e = .returned (.tuple #[zNF.val, .int .i64 0, .bool false])
  | some (n, _) => ∃ f : NF, e = .returned (.tuple #[f.val, .int .i64 (n.enc.length : Int), .bool true]) ∧ NdR (fun b => w.heap.size ≤ b ∧ b < w'.heap.size) NB w' f n
theorem many_nil (f : List UInt8 → Option (Nd × List UInt8)) (fuel : Nat) : many f fuel [] = some [] := by unfold many; cases fuel <;> rfl
theorem many_none {f : List UInt8 → Option (Nd × List UInt8)} {fuel : Nat} {x : UInt8} {b : List UInt8} (h : f (x :: b) = none) : many f (fuel + 1) (x :: b) = none := by
  unfold many; rw [h]
theorem many_step {f : List UInt8 → Option (Nd × List UInt8)} {fuel : Nat} {x : UInt8} {b : List UInt8} {k : Nd} {r : List UInt8} (h : f (x :: b) = some (k, r)) : many f (fuel + 1) (x :: b) = (many f fuel r).map (k :: ·) := by
  conv => lhs; unfold many
  rw [h]
/-- What stands between two rounds of a node's reading by the reference: X: the result's block; N: the node's; B: the heap's size ahead of the loop. -/
structure KG (X N B d : Nat) (A : Option Addr) (a0 : Option (List Nd)) (w wr : World) (Ah : Option Addr) (nh ch : Nat) (hl : List UInt8) (fuel : Nat) (ks : List Nd) (fs : List NF) (A2 : Option Addr) (m2 c2 : Nat) : Prop where
  rd : Rd wr Ah nh ch hl
  frm : From A Ah
  fue : hl.length ≤ fuel
  len : hl.length + ks.length ≤ 1000000
  ans : a0 = (many (dec d) fuel hl).map (ks ++ ·)
  bX : Blk wr X 25 #[.int .i64 0, .slice none 0 0, .slice none 0 0]
  bN : Blk wr N 25 #[.int .i64 48, .slice none 0 0, .slice A2 m2 c2]
  own : OwnE Try.eN wr B (.slice A2 m2 c2) fs
  lens : fs.length = ks.length
  kids : ∀ (j : Nat) (g : NF) (k : Nd), fs[j]? = some g → ks[j]? = some k → NdR (fun b => (B ≤ b ∧ b < wr.heap.size) ∧ (Value.slice A2 m2 c2).ownBlock ≠ some b) NB wr g k
  below : Below w.heap.size w wr
  size : B ≤ wr.heap.size
/-- The head of bytes, as one reads them in place. -/
def HeadAt (b : List UInt8) (T AT NN : Nat) : Prop := AT ≤ b.length ∧ NN < 16777216 ∧ headW b = if b.length - AT < NN then none else some ((T : Int), (b.drop AT).take NN, (b.drop AT).drop NN)
theorem headAt_short {t l : UInt8} {r : List UInt8} (h : l.toNat < 128) : HeadAt (t :: l :: r) t.toNat 2 l.toNat := by
  refine ⟨by simp, by omega, ?_⟩
  rw [headW_eq, if_pos h, show (t :: l :: r).length - 2 = r.length by simp, show (t :: l :: r).drop 2 = r from rfl]
  by_cases h2 : l.toNat ≤ r.length
  · rw [if_pos h2, if_neg (by omega)]
  · rw [if_neg h2, if_pos (by omega)]
theorem headAt_long {t l : UInt8} {r : List UInt8} {K : Nat} (h : ¬ l.toNat < 128) (hK : l.toNat - 128 = K) (h1 : ¬ K < 1) (h2 : ¬ 3 < K) (h3 : ¬ r.length < K) (h4 : r.getD 0 0 ≠ 0) (h5 : ¬ beVal (r.take K) < 128) : HeadAt (t :: l :: r) t.toNat (2 + K) (beVal (r.take K)) := by
  have hl := beVal_lt (r.take K)
  rw [show (r.take K).length = K by rw [List.length_take]; omega] at hl
  have hl2 := Nat.lt_of_lt_of_le hl (Nat.pow_le_pow_right (n := 256) (by omega) (show K ≤ 3 by omega))
  refine ⟨by simp only [List.length_cons]; omega, hl2, ?_⟩
  have hd : (t :: l :: r).drop (2 + K) = r.drop K := by rw [Nat.add_comm]; rfl
  rw [headW_eq, if_neg h, hK, if_neg (by simp only [not_or]; exact ⟨h1, h2, h3, h4⟩), if_neg h5, hd]
  have e : (t :: l :: r).length - (2 + K) = (r.drop K).length := by rw [List.length_drop]; simp only [List.length_cons]; omega
  rw [e]
theorem headW_bad {t l : UInt8} {r : List UInt8} {K : Nat} (h : ¬ l.toNat < 128) (hK : l.toNat - 128 = K) (h1 : (K < 1 ∨ 3 < K ∨ r.length < K ∨ r.getD 0 0 = 0) ∨ beVal (r.take K) < 128) : headW (t :: l :: r) = none := by
  rw [headW_eq, if_neg h, hK]
  rcases h1 with h1 | h1
  · rw [if_pos h1]
  · by_cases h2 : K < 1 ∨ 3 < K ∨ r.length < K ∨ r.getD 0 0 = 0
    · rw [if_pos h2]
    · rw [if_neg h2, if_pos h1]
set_option maxRecDepth 100000 in
set_option maxHeartbeats 8000000 in
theorem get_any : ∀ (d : Nat) (A : Option Addr) (m c : Nat) (b : List UInt8) (depth : Int) (w : World), Rd w A m c b → m ≤ 1000000 → d ≤ 16 → depth = 17 - (d : Int) →
    Calls Try.prog 42 #[.slice A m c, .int .i64 depth] w fun e w' => GetPost w w' e (dec d b) ∧ Below w.heap.size w w' := by
  intro d
  induction d with
  | zero =>
    intro A m c b depth w h hm hd16 hdep
    obtain ⟨X, hX⟩ : ∃ X, w.heap.size = X := ⟨_, rfl⟩
    have bA : Blk (w.alloc (.cells #[.int .i64 0, .slice none 0 0, .slice none 0 0] 25)) X 25 #[.int .i64 0, .slice none 0 0, .slice none 0 0] := by rw [← hX]; exact Blk.new _ _ _
    have hbA : Below w.heap.size w (w.alloc (.cells #[.int .i64 0, .slice none 0 0, .slice none 0 0] 25)) := (Below.refl _ _).alloc (Nat.le_refl _) _
    have HA := Lib.hid (And.intro bA hbA)
    have HX := Lib.hid hX
    have t2 : (16 : Int) < depth := by omega
    have t2d : decide ((16 : Int) < depth) = true := decide_eq_true t2
    have HN := Lib.hid (show dec 0 b = none by unfold dec; rfl)
    clear hdep hd16 h bA hbA
    go_enter Try.func42, Try.ntmps42
    go_wp2_with (refine wpList_store_arr rfl 25 (.tmp 4) (.tmp 23) rfl X 25 _ [.int .i64 0, .slice none 0 0, .slice none 0 0] HA.out.1 rfl rfl (by kernel_rfl) rfl rfl ?_; intro w9 hB9 hT9; have H9 := Lib.hid (And.intro hB9 hT9); clear hB9 hT9)
    refine bodyPost_ret (node_res (f := zNF) rfl rfl H9.out.1) rfl ?_
    rw [HN.out]
    have hb9 : Below w.heap.size w w9 := below_turn (HA.out.2) H9.out.2 (fun t ht => by simp at ht; omega) (HA.out.2).size
    exact ⟨rfl, by first | exact hb9 | (rw [← hX]; exact hb9)⟩
  | succ d ih =>
  intro A m c b depth w h hm hd16 hdep
  obtain ⟨ans, hans⟩ : ∃ ans, dec (d + 1) b = ans := ⟨_, rfl⟩
  rw [hans]
  have hdec := hans
  unfold dec at hans
  obtain ⟨X, hX⟩ : ∃ X, w.heap.size = X := ⟨_, rfl⟩
  obtain ⟨wA, hwA⟩ : ∃ wA, w.alloc (.cells #[.int .i64 0, .slice none 0 0, .slice none 0 0] 25) = wA := ⟨_, rfl⟩
  have bA : Blk wA X 25 #[.int .i64 0, .slice none 0 0, .slice none 0 0] := by rw [← hwA, ← hX]; exact Blk.new _ _ _
  have hbA : Below w.heap.size w wA := by rw [← hwA]; exact (Below.refl _ _).alloc (Nat.le_refl _) _
  have hsA : wA.heap.size = X + 1 := by rw [← hwA, ← hX]; simp
  have HA := Lib.hid (And.intro bA (And.intro hbA (And.intro hsA (And.intro (h.below hbA) h))))
  have HI := Lib.hid ih
  have HD := Lib.hid (And.intro hdep hd16)
  have HN := Lib.hid hans
  have HDEC := Lib.hid hdec
  have hbm := h.1
  have t2 : ¬ (16 : Int) < depth := by omega
  have t2d : decide ((16 : Int) < depth) = false := decide_eq_false t2
  have hd0 : 0 ≤ depth := by omega
  clear bA hbA hsA h ih hdep hd16 hans hdec
  by_cases h2 : m < 2
  · have t1 : (m : Int) < 2 := by omega
    have t1d : decide ((m : Int) < 2) = true := decide_eq_true t1
    have HN2 := Lib.hid (show ans = none by
      rw [← HN.out, show headW b = none from (match b, hbm with
      | [], _ => rfl
      | [_], _ => rfl
      | x :: y :: l, h => by simp only [List.length_cons] at h; omega)])
    clear hbm
    subst hwA
    go_enter Try.func42, Try.ntmps42
    go_wp2_with (refine wpList_store_arr rfl 25 (.tmp 4) (.tmp 23) rfl X 25 _ [.int .i64 0, .slice none 0 0, .slice none 0 0] HA.out.1 rfl rfl (by kernel_rfl) rfl rfl ?_; intro w9 hB9 hT9; have H9 := Lib.hid (And.intro hB9 hT9); clear hB9 hT9)
    refine bodyPost_ret (node_res (f := zNF) rfl rfl H9.out.1) rfl ?_
    rw [HN2.out]
    have hb9 : Below w.heap.size w w9 := below_turn (HA.out.2.1) H9.out.2 (fun t ht => by simp at ht; omega) (HA.out.2.1).size
    exact ⟨rfl, by first | exact hb9 | (rw [← hX]; exact hb9)⟩
  have t1 : ¬ (m : Int) < 2 := by omega
  have t1d : decide ((m : Int) < 2) = false := decide_eq_false t1
  obtain ⟨t, l, r, rfl⟩ : ∃ t l r, b = t :: l :: r := match b, hbm with
    | [], h => by simp only [List.length_nil] at h; omega
    | [_], h => by simp only [List.length_cons, List.length_nil] at h; omega
    | x :: y :: l, _ => ⟨x, y, l, rfl⟩
  have HM := Lib.hid hbm
  obtain ⟨g, off, rfl, hat⟩ := HA.out.2.2.2.1.addr (by omega)
  have c0 := hat.2 0 t rfl
  have c1 := hat.2 1 l rfl
  rw [Nat.add_zero] at c0
  unfold B at c0 c1
  have htl := t.toNat_lt
  have hll := l.toNat_lt
  obtain ⟨T, hT⟩ : ∃ T, t.toNat = T := ⟨_, rfl⟩
  obtain ⟨L, hL⟩ : ∃ L, l.toNat = L := ⟨_, rfl⟩
  rw [hT] at c0 htl
  rw [hL] at c1 hll
  have hwT := i64_nat (n := T) (by omega)
  have hwL := i64_nat (n := L) (by omega)
  have i0 : ¬ ((m : Int) ≤ 0) := by omega
  have i1 : (1 : Int) < m := by omega
  have i00 : (0 : Int) < m := by omega
  have i2 : (2 : Int) ≤ m := by omega
  have HTL := Lib.hid (And.intro hT (And.intro hL hat))
  clear hT hL hat hbm
  go_enter Try.func42, Try.ntmps42
  go_upto_region 4 with fail
  try rw [hwA]
  try rw [hX]
  go_upto_if 29 with fail
  go_cut [7, 8] (fun aa nn wx => ∃ AT NN : Nat, aa = .int .i64 (AT : Int) ∧ nn = .int .i64 (NN : Int) ∧ HeadAt (t :: l :: r) T AT NN ∧ wx = wA)
  case first =>
    by_cases h128 : L < 128
    · have t3 : ¬ (128 : Int) ≤ L := by omega
      have t3d : decide ((128 : Int) ≤ (L : Int)) = false := decide_eq_false t3
      go_wp2_with fail
      go_meet
      exact ⟨2, L, rfl, rfl, by rw [← HTL.out.1, ← HTL.out.2.1]; exact headAt_short (by rw [HTL.out.2.1]; exact h128), rfl⟩
    · have t3 : (128 : Int) ≤ L := by omega
      have t3d : decide ((128 : Int) ≤ (L : Int)) = true := decide_eq_true t3
      obtain ⟨K, hK⟩ : ∃ K, L - 128 = K := ⟨_, rfl⟩
      have hKi : (L : Int) - 128 = K := by omega
      have H128 := Lib.hid (And.intro (show ¬ l.toNat < 128 by rw [HTL.out.2.1]; exact h128) (show l.toNat - 128 = K by rw [HTL.out.2.1]; exact hK))
      clear hK
      have hbad : (K < 1 ∨ 3 < K ∨ r.length < K ∨ r.getD 0 0 = 0) ∨ beVal (r.take K) < 128 → ans = none := fun hb => by
        rw [← HN.out, headW_bad H128.out.1 H128.out.2 hb]
      have HBAD := Lib.hid hbad
      clear hbad
      by_cases g1 : K < 1
      · have t4 : (K : Int) < 1 := by omega
        have t4d : decide ((K : Int) < 1) = true := decide_eq_true t4
        have HN2 := Lib.hid (HBAD.out (.inl (.inl g1)))
        go_wp2_with (refine wpList_store_arr rfl 25 (.tmp 4) (.tmp 51) rfl X 25 _ [.int .i64 0, .slice none 0 0, .slice none 0 0] HA.out.1 rfl rfl (by kernel_rfl) rfl rfl ?_; intro w9 hB9 hT9; have H9 := Lib.hid (And.intro hB9 hT9); clear hB9 hT9)
        refine bodyPost_ret (node_res (f := zNF) rfl rfl H9.out.1) rfl ?_
        rw [HN2.out]
        have hb9 : Below w.heap.size w w9 := below_turn (HA.out.2.1) H9.out.2 (fun t ht => by simp at ht; omega) (HA.out.2.1).size
        exact ⟨rfl, by first | exact hb9 | (rw [← hX]; exact hb9)⟩
      have t4 : ¬ (K : Int) < 1 := by omega
      have t4d : decide ((K : Int) < 1) = false := decide_eq_false t4
      by_cases g2 : 3 < K
      · have t5 : (3 : Int) < K := by omega
        have t5d : decide ((3 : Int) < (K : Int)) = true := decide_eq_true t5
        have HN2 := Lib.hid (HBAD.out (.inl (.inr (.inl g2))))
        go_wp2_with (refine wpList_store_arr rfl 25 (.tmp 4) (.tmp 51) rfl X 25 _ [.int .i64 0, .slice none 0 0, .slice none 0 0] HA.out.1 rfl rfl (by kernel_rfl) rfl rfl ?_; intro w9 hB9 hT9; have H9 := Lib.hid (And.intro hB9 hT9); clear hB9 hT9)
        refine bodyPost_ret (node_res (f := zNF) rfl rfl H9.out.1) rfl ?_
        rw [HN2.out]
        have hb9 : Below w.heap.size w w9 := below_turn (HA.out.2.1) H9.out.2 (fun t ht => by simp at ht; omega) (HA.out.2.1).size
        exact ⟨rfl, by first | exact hb9 | (rw [← hX]; exact hb9)⟩
      have t5 : ¬ (3 : Int) < K := by omega
      have t5d : decide ((3 : Int) < (K : Int)) = false := decide_eq_false t5
      by_cases g3 : m < 2 + K
      · have t6 : (m : Int) < 2 + (K : Int) := by omega
        have t6d : decide ((m : Int) < 2 + (K : Int)) = true := decide_eq_true t6
        have HN2 := Lib.hid (HBAD.out (.inl (.inr (.inr (.inl (by have := HM.out; simp only [List.length_cons] at this; omega))))))
        go_wp2_with (refine wpList_store_arr rfl 25 (.tmp 4) (.tmp 51) rfl X 25 _ [.int .i64 0, .slice none 0 0, .slice none 0 0] HA.out.1 rfl rfl (by kernel_rfl) rfl rfl ?_; intro w9 hB9 hT9; have H9 := Lib.hid (And.intro hB9 hT9); clear hB9 hT9)
        refine bodyPost_ret (node_res (f := zNF) rfl rfl H9.out.1) rfl ?_
        rw [HN2.out]
        have hb9 : Below w.heap.size w w9 := below_turn (HA.out.2.1) H9.out.2 (fun t ht => by simp at ht; omega) (HA.out.2.1).size
        exact ⟨rfl, by first | exact hb9 | (rw [← hX]; exact hb9)⟩
      have t6 : ¬ (m : Int) < 2 + (K : Int) := by omega
      have t6d : decide ((m : Int) < 2 + (K : Int)) = false := decide_eq_false t6
      obtain ⟨x, r', rfl⟩ : ∃ x r', r = x :: r' := by
        cases r with
        | nil => have := HM.out; simp only [List.length_cons, List.length_nil] at this; omega
        | cons x r' => exact ⟨x, r', rfl⟩
      have c3 := HTL.out.2.2.2 2 x rfl
      unfold B at c3
      have j1 : (2 : Int) < m := by omega
      by_cases g4 : x = 0
      · subst g4
        have c3 : wA.cell? ⟨g, off + 2, none⟩ = some (.int .u8 0) := c3
        have HN2 := Lib.hid (HBAD.out (.inl (.inr (.inr (.inr rfl)))))
        go_wp2_with (refine wpList_store_arr rfl 25 (.tmp 4) (.tmp 51) rfl X 25 _ [.int .i64 0, .slice none 0 0, .slice none 0 0] HA.out.1 rfl rfl (by kernel_rfl) rfl rfl ?_; intro w9 hB9 hT9; have H9 := Lib.hid (And.intro hB9 hT9); clear hB9 hT9)
        refine bodyPost_ret (node_res (f := zNF) rfl rfl H9.out.1) rfl ?_
        rw [HN2.out]
        have hb9 : Below w.heap.size w w9 := below_turn (HA.out.2.1) H9.out.2 (fun t ht => by simp at ht; omega) (HA.out.2.1).size
        exact ⟨rfl, by first | exact hb9 | (rw [← hX]; exact hb9)⟩
      have g4' : x.toNat ≠ 0 := fun e => g4 (UInt8.toNat_inj.1 e)
      obtain ⟨X3, hX3⟩ : ∃ X3, x.toNat = X3 := ⟨_, rfl⟩
      rw [hX3] at c3 g4'
      have t7 : ¬ ((X3 : Int) = 0) := by omega
      have t7d : ((X3 : Int) == 0) = false := by simpa using g4'
      have HX3 := Lib.hid (And.intro hX3 g4)
      clear hX3 g4 g4'
      go_wp2_with fail
      go_loopw [8, 10] (fun vv kk wr => ∃ j : Nat, j ≤ K ∧ kk = .int .i64 (j : Int) ∧ vv = .int .i64 ((beVal (((x :: r').take K).take j) : Nat) : Int) ∧ wr = wA) (fun _ kk _ => K - (intOf kk).toNat)
      case atStart => exact ⟨0, by omega, rfl, rfl, rfl⟩
      case round =>
        obtain ⟨j, hj, rfl, rfl, rfl⟩ := hrel
        by_cases hlt : j < K
        · have hi : (j : Int) < K := by omega
          have hd : decide (j < K) = true := decide_eq_true hlt
          have hk0 : ¬ (2 + (j : Int) < 0) := by omega
          have hk1 : 2 + (j : Int) < m := by omega
          have hk2 : (2 + (j : Int)).toNat = 2 + j := by omega
          obtain ⟨y, hy⟩ : ∃ y, (x :: r')[j]? = some y := ⟨_, List.getElem?_eq_getElem (by have := HM.out; simp only [List.length_cons] at this ⊢; omega)⟩
          have ck := HTL.out.2.2.2 (2 + j) y (by rw [Nat.add_comm 2 j]; exact hy)
          unfold B at ck
          have hyt : ((x :: r').take K)[j]? = some y := by rw [List.getElem?_take, if_pos hlt, hy]
          obtain ⟨N, hN⟩ : ∃ N, beVal (((x :: r').take K).take j) = N := ⟨_, rfl⟩
          have hNl : N < 16777216 := by
            rw [← hN]
            refine Nat.lt_of_lt_of_le (beVal_lt _) (Nat.le_trans (Nat.pow_le_pow_right (by omega) (show _ ≤ 3 by rw [List.length_take, List.length_take]; omega)) (by decide))
          have hnext : beVal (((x :: r').take K).take (j + 1)) = N * 256 + y.toNat := by rw [List.take_add_one, hyt, Option.toList_some, beVal_snoc, hN]
          have hyl := y.toNat_lt
          obtain ⟨Y, hY⟩ : ∃ Y, y.toNat = Y := ⟨_, rfl⟩
          rw [hY] at ck hnext hyl
          have hwY := i64_nat (n := Y) (by omega)
          rw [hN]
          have HY := Lib.hid (And.intro hN hnext)
          clear hy hyt hN hnext hY
          go_wp2_with fail
          go_roundw
          case measure => simp [intOf]; omega
          exact ⟨j + 1, by omega, by simp, by rw [HY.out.2]; congr 1; omega, trivial⟩
        · obtain rfl : j = K := by omega
          have hi : ¬ (j : Int) < j := by omega
          have hd : decide (j < j) = false := decide_eq_false hlt
          rw [List.take_of_length_le (l := (x :: r').take j) (by rw [List.length_take]; omega)]
          have hVl := beVal_lt ((x :: r').take j)
          rw [show ((x :: r').take j).length = j by rw [List.length_take]; have := HM.out; simp only [List.length_cons] at this ⊢; omega] at hVl
          have hVl2 := Nat.lt_of_lt_of_le hVl (Nat.pow_le_pow_right (n := 256) (by omega) (show j ≤ 3 by omega))
          by_cases g5 : beVal ((x :: r').take j) < 128
          · have HN2 := Lib.hid (HBAD.out (.inr g5))
            obtain ⟨V, hV⟩ : ∃ V, beVal ((x :: r').take j) = V := ⟨_, rfl⟩
            rw [hV] at g5 ⊢
            have t8 : (V : Int) < 128 := by omega
            have t8d : decide ((V : Int) < 128) = true := decide_eq_true t8
            clear hVl hVl2 hV
            go_wp2_with (refine wpList_store_arr rfl 25 (.tmp 4) (.tmp 68) rfl X 25 _ [.int .i64 0, .slice none 0 0, .slice none 0 0] HA.out.1 rfl rfl (by kernel_rfl) rfl rfl ?_; intro w9 hB9 hT9; have H9 := Lib.hid (And.intro hB9 hT9); clear hB9 hT9)
            refine bodyPost_ret (node_res (f := zNF) rfl rfl H9.out.1) rfl ?_
            rw [HN2.out]
            have hb9 : Below w.heap.size w w9 := below_turn (HA.out.2.1) H9.out.2 (fun t ht => by simp at ht; omega) (HA.out.2.1).size
            exact ⟨rfl, by first | exact hb9 | (rw [← hX]; exact hb9)⟩
          have HF := Lib.hid (headAt_long (t := t) H128.out.1 H128.out.2 g1 g2 (by have := HM.out; simp only [List.length_cons] at this ⊢; omega) (by simpa using HX3.out.2) g5)
          obtain ⟨V, hV⟩ : ∃ V, beVal ((x :: r').take j) = V := ⟨_, rfl⟩
          rw [hV] at g5 HF ⊢
          rw [hV] at hVl2
          have hVl3 : V < 16777216 := hVl2
          have t8 : ¬ (V : Int) < 128 := by omega
          have t8d : decide ((V : Int) < 128) = false := decide_eq_false t8
          clear hVl hVl2 hV
          go_wp2_with fail
          go_meet
          exact ⟨2 + j, V, by simp, rfl, by rw [← HTL.out.1]; exact HF.out, rfl⟩
  case rest =>
    obtain ⟨AT, NN, rfl, rfl, hHA, hwe⟩ := hcut
    subst hwe
    obtain ⟨wF, hwF⟩ : ∃ wF, wF = wc := ⟨_, rfl⟩
    subst hwF
    obtain ⟨hAT, hNN, hhd⟩ := hHA
    have hMl := HM.out
    have hans := HN.out
    rw [hhd] at hans
    rw [← hMl] at hAT hans
    by_cases g6 : m - AT < NN
    · have t9 : (m : Int) - AT < NN := by omega
      have t9d : decide ((m : Int) - AT < (NN : Int)) = true := decide_eq_true t9
      rw [if_pos g6] at hans
      have HN2 := Lib.hid hans.symm
      clear hans hhd hMl
      go_wp2_with (refine wpList_store_arr rfl 25 (.tmp 4) (.tmp 77) rfl X 25 _ [.int .i64 0, .slice none 0 0, .slice none 0 0] HA.out.1 rfl rfl (by kernel_rfl) rfl rfl ?_; intro w9 hB9 hT9; have H9 := Lib.hid (And.intro hB9 hT9); clear hB9 hT9)
      refine bodyPost_ret (node_res (f := zNF) rfl rfl H9.out.1) rfl ?_
      rw [HN2.out]
      have hb9 : Below w.heap.size w w9 := below_turn (HA.out.2.1) H9.out.2 (fun t ht => by simp at ht; omega) (HA.out.2.1).size
      exact ⟨rfl, by first | exact hb9 | (rw [← hX]; exact hb9)⟩
    have t9 : ¬ (m : Int) - AT < NN := by omega
    have t9d : decide ((m : Int) - AT < (NN : Int)) = false := decide_eq_false t9
    rw [if_neg g6] at hans
    simp only at hans
    obtain ⟨held, hheld⟩ : ∃ held, ((t :: l :: r).drop AT).take NN = held := ⟨_, rfl⟩
    obtain ⟨rest, hrest⟩ : ∃ rest, ((t :: l :: r).drop AT).drop NN = rest := ⟨_, rfl⟩
    rw [hheld, hrest] at hans
    have hhl : held.length = NN := by rw [← hheld, List.length_take, List.length_drop, ← hMl]; omega
    have hrl : AT + NN + rest.length = m := by rw [← hrest, List.length_drop, List.length_drop, ← hMl]; omega
    have hcut0 := (HA.out.2.2.2.1.cut (k := AT) hAT).front (k := NN) (by omega)
    rw [hheld] at hcut0
    have hfr := From.cut (some ⟨g, off, none⟩) c AT
    have hu : ∀ (n : Nd) (rs : List UInt8), ans = some (n, rs) → rs.length = rest.length → (n.enc.length : Int) = (AT : Int) + NN := fun n rs h1 h2 => by
      have h3 := dec_some _ _ _ _ (HDEC.out.trans h1)
      have h4 := congrArg List.length h3.1
      rw [List.length_append, ← hMl] at h4
      omega
    have HH := Lib.hid (And.intro hhl (And.intro hrl (And.intro hcut0 (And.intro hfr hu))))
    have hNNb : NN ≤ 1000000 := by omega
    have hATb : AT ≤ 1000000 := by omega
    have hca : c - AT ≤ 9223372036854775807 ∧ AT + NN ≤ c := by have h1 := HA.out.2.2.2.1.2.1; have h2 := HA.out.2.2.2.1.2.2.1; unfold maxLen at h2; omega
    obtain ⟨hca1, hca2⟩ := hca
    have hc3 : (AT : Int) + NN ≤ c := by omega
    have hc4 : (AT : Int) ≤ (AT : Int) + NN := by omega
    have hmc := HA.out.2.2.2.1.2.1
    have hcm := HA.out.2.2.2.1.2.2.1
    unfold maxLen at hcm
    clear hheld hrest hhl hrl hcut0 hfr hu hhd hMl
    have bZ : Blk (wF.alloc (.cells #[.int .i64 0, .slice none 0 0, .slice none 0 0] 25)) (X + 1) 25 #[.int .i64 0, .slice none 0 0, .slice none 0 0] := by rw [← HA.out.2.2.1]; exact Blk.new _ _ _
    have hsz := HA.out.2.2.1
    have HZ := Lib.hid bZ
    clear bZ
    by_cases h48 : T = 48
    · subst h48
      rw [show ((48 : Nat) : Int) = 48 from rfl] at c0 hwT hans
      rw [if_pos rfl] at hans
      have HANS := Lib.hid hans
      clear hans
      go_upto_region 20 with (refine wpList_store_arr rfl 25 (.tmp 11) (.tmp 82) rfl (X + 1) 25 _ [.int .i64 48, .slice none 0 0, .slice none 0 0] HZ.out rfl rfl (by kernel_rfl) rfl rfl ?_; intro w5 hB5 hT5; have H5 := Lib.hid (And.intro hB5 hT5); clear hB5 hT5)
      have hb5 : Below wF.heap.size wF w5 := below_turn ((Below.refl _ _).alloc (Nat.le_refl _) _) H5.out.2 (fun t ht => by simp at ht; omega) (by simp)
      have H6 := Lib.hid (And.intro (HA.out.1.below hb5) (And.intro (HA.out.2.1.trans (hb5.mono HA.out.2.1.size)) (And.intro hb5 (show X + 2 ≤ w5.heap.size by have := H5.out.2.size; simp at this; omega))))
      clear hb5
      simp only [Act.put]
      go_cut [12] (fun s wx => ∃ A3 n3 c3, s = .slice A3 n3 c3 ∧ Rd wx A3 n3 c3 held ∧ From (some ⟨g, off, none⟩) A3 ∧ wx = w5)
      case first =>
        by_cases hcA : c = AT
        · have hR := HH.out.2.2.1
          rw [if_pos hcA] at hR
          have HR := Lib.hid (hR.below H6.out.2.2.1)
          clear hR
          subst hcA
          go_wp2_with fail
          go_meet
          exact ⟨_, _, _, rfl, by have h9 := HR.out; rwa [show NN = 0 by omega, Nat.sub_self] at h9, From.refl _, rfl⟩
        · have hR := HH.out.2.2.1
          rw [if_neg hcA] at hR
          have HR := Lib.hid (hR.below H6.out.2.2.1)
          clear hR
          go_wp2_with fail
          go_meet
          have hae : Option.map (fun x : Addr => x.add AT) (some ⟨g, off, none⟩) = some ⟨g, off + AT, none⟩ := by rw [Option.map_some, Addr.add_mid]
          exact ⟨_, _, _, rfl, by have h9 := HR.out; rwa [hae] at h9, by have h9 := HH.out.2.2.2.1; rwa [hae] at h9, rfl⟩
      case rest =>
      obtain ⟨A3, n3, c3', rfl, hR3, hF3, hwe⟩ := hcut
      subst hwe
      obtain ⟨wG, hwG⟩ : ∃ wG, wG = wc := ⟨_, rfl⟩
      subst hwG
      have hn3 := hR3.1
      have hc63 := hR3.2.2.1
      unfold maxLen at hc63
      have hn3c := hR3.2.1
      obtain ⟨a0, ha0⟩ : ∃ a0, many (dec d) held.length held = a0 := ⟨_, rfl⟩
      have hK0 : KG X (X + 1) (X + 2) d (some ⟨g, off, none⟩) a0 w wG A3 n3 c3' held held.length [] [] none 0 0 :=
        ⟨hR3, hF3, Nat.le_refl _, by have := HH.out.1; simp; omega, by rw [ha0]; simp, H6.out.1, H5.out.1, OwnE.nil _ _, rfl, by simp, H6.out.2.1, by have := H6.out.2.2.2; omega⟩
      have HK0 := Lib.hid (And.intro hK0 ha0)
      have hXw := HA.out.2.2.1
      clear hR3 hF3 hK0 ha0 hn3
      have z0 := H5.out.1.cell 0
      simp only [List.getElem?_toArray, List.getElem?_cons_succ, List.getElem?_cons_zero] at z0
      go_wp2_with fail
      go_loopw [12] (fun hh wr => ∃ (Ah : Option Addr) (nh ch : Nat) (hl : List UInt8) (fuel : Nat) (ks : List Nd) (fs : List NF) (A2 : Option Addr) (m2 c2 : Nat), hh = .slice Ah nh ch ∧ KG X (X + 1) (X + 2) d (some ⟨g, off, none⟩) a0 w wr Ah nh ch hl fuel ks fs A2 m2 c2) (fun hh _ => match hh with | .slice _ n _ => n | _ => 0)
      case atStart => exact ⟨_, _, _, _, _, _, _, _, _, _, rfl, HK0.out.1⟩
      case round =>
        obtain ⟨Ah, nh, ch, hl, fuel, kl, fl, Ak, mk, ck, rfl, hK⟩ := hrel
        have hnl := hK.rd.1
        have hz2 := hK.bN.cell 2
        have hz1 := hK.bN.cell 1
        have hz0 := hK.bN.cell 0
        simp only [List.getElem?_toArray, List.getElem?_cons_succ, List.getElem?_cons_zero] at hz0 hz1 hz2
        have hch := hK.rd.2.2.1
        unfold maxLen at hch
        have hnc := hK.rd.2.1
        have HK := Lib.hid hK
        clear hK
        by_cases hn0 : nh = 0
        · subst hn0
          obtain rfl : hl = [] := List.eq_nil_of_length_eq_zero hnl.symm
          have HAns := Lib.hid (show ans = some (.mk 48 [] kl, rest) by rw [← HANS.out, HK0.out.2, HK.out.ans, many_nil]; simp)
          clear hnl
          go_wp2_with (refine wpList_store_arr rfl 25 (.tmp 4) (.tmp 128) rfl X 25 _ [.int .i64 48, .slice none 0 0, .slice Ak mk ck] HK.out.bX rfl rfl (by kernel_rfl) rfl rfl ?_; intro w9 hB9 hT9; have H10 := Lib.hid (And.intro hB9 hT9); clear hB9 hT9)
          refine bodyPost_ret (node_res (f := ⟨48, none, 0, 0, Ak, mk, ck⟩) rfl rfl H10.out.1) rfl ?_
          rw [HAns.out]
          have hs := HK.out.size
          have hT := H10.out.2
          have hb9 : Below w.heap.size w w9 := below_turn HK.out.below hT (fun t ht => by simp at ht; omega) HK.out.below.size
          refine ⟨⟨⟨48, none, 0, 0, Ak, mk, ck⟩, by rw [HH.out.2.2.2.2 _ _ HAns.out rfl]; rfl, ?_⟩, by first | exact hb9 | (rw [← hX]; exact hb9)⟩
          refine NdR.mk ⟨48, none, 0, 0, Ak, mk, ck⟩ [] fl kl (Rd.nil _) (fun a ha => by cases ha) (HK.out.own.rd.turn hT (fun a ha => by have := (HK.out.own.blk_le ha).1; simp; omega)) HK.out.own.max.1 (fun a ha => by have := HK.out.own.blk_le ha; have := hT.size; exact ⟨by omega, by omega⟩) (fun _ => ⟨rfl, rfl, rfl⟩) HK.out.lens (fun j g k hg hk => ?_)
          exact ((HK.out.kids j g k hg hk).turn hT (fun b hb => ⟨hb.1.2, by have := hb.1.1; simp; omega⟩)).mono (fun b hb => ⟨by have := hb.1.1; omega, by have := hb.1.2; have := hT.size; omega⟩) (fun _ h => h)
        · have t4 : (0 : Int) < nh := by omega
          have t4d : decide ((0 : Int) < (nh : Int)) = true := decide_eq_true t4
          obtain ⟨x, hl', rfl⟩ : ∃ x hl', hl = x :: hl' := by
            cases hl with
            | nil => simp only [List.length_nil] at hnl; omega
            | cons x l => exact ⟨x, l, rfl⟩
          obtain ⟨fu, rfl⟩ : ∃ fu, fuel = fu + 1 := ⟨fuel - 1, by have := HK.out.fue; simp only [List.length_cons] at this; omega⟩
          have hlen1 := HK.out.len
          have hcall := HI.out Ah nh ch (x :: hl') (depth + 1) wr HK.out.rd (by omega) (by have := HD.out.2; omega) (by have := HD.out.1; omega)
          have hsB := HK.out.size
          have HL := Lib.hid (And.intro hnl hlen1)
          clear hnl hlen1
          go_wp2_with fail
          refine hcall.mono ?_
          rintro e wc ⟨hp, hbc⟩
          clear hcall
          obtain ⟨Kb, hKb⟩ : ∃ Kb, wc.heap.size = Kb := ⟨_, rfl⟩
          have hsc := hbc.size
          have bK : Blk (wc.alloc (.cells #[.int .i64 0, .slice none 0 0, .slice none 0 0] 25)) Kb 25 #[.int .i64 0, .slice none 0 0, .slice none 0 0] := by rw [← hKb]; exact Blk.new _ _ _
          have HC := Lib.hid (And.intro hbc bK)
          clear hbc bK
          cases hq : dec d (x :: hl') with
          | none =>
            rw [hq] at hp
            obtain rfl := hp
            have HAns := Lib.hid (show ans = none by rw [← HANS.out, HK0.out.2, HK.out.ans, many_none hq]; rfl)
            simp only [NF.val, zNF]
            go_wp2_with (first | (refine wpList_store_arr rfl 25 (.tmp 13) (.tmp 113) rfl Kb 25 _ [.int .i64 0, .slice none 0 0, .slice none 0 0] HC.out.2 rfl rfl (by kernel_rfl) rfl rfl ?_; intro w5 hB5 hT5; have H5 := Lib.hid (And.intro (((HK.out.bX.below HC.out.1).alloc _).turn hT5 (by simp; omega)) (below_turn ((HK.out.below.trans (HC.out.1.mono (by have := HK.out.below.size; omega))).alloc (by have := HK.out.below.size; omega) _) hT5 (fun t ht => by have := HK.out.below.size; simp at ht; omega) (by have := HK.out.below.size; simp; omega))); clear hB5 hT5) | (refine wpList_store_arr rfl 25 (.tmp 4) (.tmp 118) rfl X 25 _ [.int .i64 0, .slice none 0 0, .slice none 0 0] H5.out.1 rfl rfl (by kernel_rfl) rfl rfl ?_; intro w9 hB9 hT9; have H10 := Lib.hid (And.intro hB9 hT9); clear hB9 hT9))
            refine bodyPost_ret (node_res (f := zNF) rfl rfl H10.out.1) rfl ?_
            rw [HAns.out]
            have hb9 : Below w.heap.size w w9 := below_turn H5.out.2 H10.out.2 (fun t ht => by simp at ht; omega) H5.out.2.size
            exact ⟨rfl, by first | exact hb9 | (rw [← hX]; exact hb9)⟩
          | some kr =>
            obtain ⟨k, rs⟩ := kr
            rw [hq] at hp
            obtain ⟨⟨tg, B1, n1', k1, B2, n2', k2⟩, rfl, hNk⟩ := hp
            obtain ⟨hle, hko⟩ := dec_some _ _ _ _ hq
            have hk2 := enc_len2 d k hko
            have hk1 := k.size_pos
            have hdr : (x :: hl').drop k.enc.length = rs := by rw [hle, List.drop_left' rfl]
            have hll := congrArg List.length hle
            rw [List.length_append] at hll
            obtain ⟨U, hU⟩ : ∃ U, k.enc.length = U := ⟨_, rfl⟩
            rw [hU] at hdr hll hk2 ⊢
            have hUn : U ≤ nh := by have := HL.out.1; omega
            obtain ⟨A5, n5, c5, hn5, hsl, hr5, hA5⟩ := HK.out.rd.cut_ex2 (k := U) hUn
            rw [hdr] at hr5
            have HAns := Lib.hid (show a0 = (many (dec d) fu rs).map (kl ++ [k] ++ ·) by
              rw [HK.out.ans, many_step hq]
              cases many (dec d) fu rs <;> simp)
            have hXc := HK.out.bX.below HC.out.1
            have hNc := HK.out.bN.below HC.out.1
            have hOc := HK.out.own.below HC.out.1
            have hkc : ∀ (j : Nat) (g : NF) (k : Nd), fl[j]? = some g → kl[j]? = some k → NdR (fun b => (X + 2 ≤ b ∧ b < wr.heap.size) ∧ (Value.slice Ak mk ck).ownBlock ≠ some b) NB wc g k := fun j g k hg hk => (HK.out.kids j g k hg hk).bel HC.out.1 (fun b hb => hb.1.2)
            have hBc := HK.out.below.trans (HC.out.1.mono HK.out.below.size)
            have hfl := HK.out.lens
            have HW := Lib.hid (And.intro hBc (And.intro hXc (And.intro hNc (And.intro hOc (And.intro hkc (And.intro hNk (And.intro (hr5.below HC.out.1) (And.intro hA5 (And.intro hll (And.intro hk2 hn5))))))))))
            have HLN := Lib.hid (show fl.length + 1 ≤ 1000000 by have := HL.out.2; simp only [List.length_cons] at this; omega)
            clear hBc hXc hNc hOc hkc hNk hr5 hA5 hll hk2 hdr hU hle hko hk1 hfl hn5
            have hXw' := hXw
            simp only [NF.val]
            go_wp2_with (first | (refine wpList_store_arr rfl 25 (.tmp 13) (.tmp 113) rfl Kb 25 _ [.int .i64 tg, .slice B1 n1' k1, .slice B2 n2' k2] HC.out.2 rfl rfl (by kernel_rfl) rfl rfl ?_; intro w5 hB5 hT5; have H5 := Lib.hid (And.intro hB5 hT5); have y0 := hB5.cell 0; have y1 := hB5.cell 1; have y2 := hB5.cell 2; have z2 := ((HW.out.2.2.1.alloc _).turn hT5 (by simp; omega)).cell 2; simp only [List.getElem?_toArray, List.getElem?_cons_succ, List.getElem?_cons_zero] at y0 y1 y2 z2; clear hB5 hT5) | (at_builtin; go_loud (refine wp_appE Try.eN (.tmp 120) (.tmp 122) (X + 2) (.slice Ak mk ck) fl (((HW.out.2.2.2.1.below ((Below.refl _ _).alloc (Nat.le_refl _) _)).turn H5.out.2 (fun g hg => by have := (HK.out.own.lt hg).2; simp; omega)).below ((Below.refl _ _).alloc (Nat.le_refl _) _)) (by have := H5.out.1.lt; simp; omega) (some ⟨w5.heap.size, 0, none⟩) 1 1 [⟨tg, B1, n1', k1, B2, n2', k2⟩] (Blk.rdC Try.eN (Blk.new _ _ _) rfl) (fun h => by cases h) (by have := HLN.out; simp; omega) rfl rfl rfl rfl ?_; intro A6 n6 c6 w6 hG; have H7 := Lib.hid hG; have hN6 : Blk w6 (X + 1) 25 #[.int .i64 48, .slice none 0 0, .slice Ak mk ck] := ((((HW.out.2.2.1.alloc _).turn H5.out.2 (by simp; omega)).alloc _).keep (hG.below.block (X + 1) (by omega))); have z6 := hN6.cell 2; simp only [List.getElem?_toArray, List.getElem?_cons_succ, List.getElem?_cons_zero] at z6; have f6 := hN6.frozen 2; have HN6 := Lib.hid hN6; clear hG hN6)))
            have hA5 := HW.out.2.2.2.2.2.2.2.1
            have hr5 := HW.out.2.2.2.2.2.2.1
            have hll := HW.out.2.2.2.2.2.2.2.2.1
            have hk2 := HW.out.2.2.2.2.2.2.2.2.2.1
            have hn5 := HW.out.2.2.2.2.2.2.2.2.2.2
            have hkp := k.size_pos
            have hFrm : From (some ⟨g, off, none⟩) A5 := HK.out.frm.trans hA5
            have hs5 := H5.out.2.size
            have hsk : (wc.alloc (.cells #[.int .i64 0, .slice none 0 0, .slice none 0 0] 25)).heap.size = wc.heap.size + 1 := by simp
            have hsa : (w5.alloc (.cells #[.int .i64 tg, .slice B1 n1' k1, .slice B2 n2' k2] 25)).heap.size = w5.heap.size + 1 := by simp
            have hb5 : Below (X + 1) wc w5 := below_turn ((Below.refl (X + 1) wc).alloc (by omega) _) H5.out.2 (fun t ht => by simp at ht; omega) (by omega)
            have hb6 : Below (X + 1) wc w6 := (hb5.alloc (by omega) _).trans (H7.out.below.mono (by omega))
            have hT7 : Turn [X + 1] w6 (w6.setCell ⟨X + 1, 2, none⟩ (.slice A6 n6 c6)) := (Turn.refl [X + 1] w6).setCell (.inl (by simp)) _
            have hb7 : Below (X + 1) wc (w6.setCell ⟨X + 1, 2, none⟩ (.slice A6 n6 c6)) := below_turn hb6 hT7 (fun t ht => by simp at ht; omega) (by have := hb6.size; omega)
            have h67 := hT7.size
            have ha6 := H7.out.below.size
            have hkeep : ∀ b, b < wc.heap.size → b ≠ X + 1 → (Value.slice Ak mk ck).ownBlock ≠ some b → (w6.setCell ⟨X + 1, 2, none⟩ (.slice A6 n6 c6)).heap[b]? = wc.heap[b]? := fun b h1 h3 h4 =>
              (hT7.block b (by omega) (by simpa using h3)).trans ((H7.out.grown.block b (by omega) (fun e => h4 e.symm)).trans ((Below.heap_alloc w5 _ b (by omega)).trans ((H5.out.2.block b (by omega) (by simp; omega)).trans (Below.heap_alloc wc _ b h1))))
            have hown2 : ∀ b, b < w5.heap.size → (Value.slice Ak mk ck).ownBlock ≠ some b → (Value.slice A6 n6 c6).ownBlock ≠ some b := fun b h1 h2 e => by
              rcases H7.out.at_ with h3 | h3
              · rw [h3] at e; exact h2 e
              · rw [h3] at e; injection e with e; omega
            have hnh := HL.out.1
            have hrs1 := hr5.1
            have hXlt := HA.out.2.2.2.2.lt ⟨g, off, none⟩ rfl
            refine ⟨⟨A5, n5, c5, rs, fu, kl ++ [k], fl ++ [⟨tg, B1, n1', k1, B2, n2', k2⟩], A6, n6, c6, rfl, ?_⟩, ?_⟩
            · refine ⟨hr5.keep hb7.size (fun a ha => ?_), hFrm, by have := HK.out.fue; simp only [List.length_cons] at this hll; omega, by have := HL.out.2; simp only [List.length_cons, List.length_append, List.length_nil] at this hll ⊢; omega, HAns.out, HW.out.2.1.keep (hb7.block X (by omega)), ?_, H7.out.own.turn hT7 (fun g hg => by have := (H7.out.own.lt hg).1; simp; omega), by simp [HK.out.lens], ?_, HW.out.1.trans (hb7.mono (by omega)), by omega⟩
              · obtain ⟨ad, e1, e2⟩ := hFrm a ha
                injection e1 with e1
                subst e1
                simp only at e2 hXlt
                exact hb7.block a.block (by omega)
              · have := HN6.out.set_ 2 (.slice A6 n6 c6)
                simpa using this
              · refine list_snoc HK.out.lens (fun j g k' hg hk => ?_) ?_
                · refine ((HW.out.2.2.2.2.1 j g k' hg hk).keep hb7.size (fun b hb => hkeep b (by have := hb.1.2; omega) (by have := hb.1.1; omega) hb.2)).mono (fun b hb => ⟨⟨hb.1.1, by have := hb.1.2; have := hb7.size; omega⟩, hown2 b (by have := hb.1.2; omega) hb.2⟩) (fun _ h => h)
                · have hrow : ∀ b, wr.heap.size ≤ b → (Value.slice Ak mk ck).ownBlock ≠ some b := fun b hb e => by have := (HK.out.own.lt e).2; omega
                  refine (HW.out.2.2.2.2.2.1.keep hb7.size (fun b hb => hkeep b hb.2 (by have := hb.1; omega) (hrow b hb.1))).mono (fun b hb => ⟨⟨by have := hb.1; omega, by have := hb.2; have := hb7.size; omega⟩, hown2 b (by have := hb.2; omega) (hrow b hb.1)⟩) (fun _ h => h)
            · show n5 < nh
              omega
    · have h48i : ¬ (T : Int) = 48 := by omega
      have h48d : ((T : Int) == 48) = false := by simp; omega
      rw [if_neg h48i] at hans
      have HANS := Lib.hid hans
      clear hans
      go_upto_region 20 with (refine wpList_store_arr rfl 25 (.tmp 11) (.tmp 82) rfl (X + 1) 25 _ [.int .i64 (T : Int), .slice none 0 0, .slice none 0 0] HZ.out rfl rfl (by kernel_rfl) rfl rfl ?_; intro w5 hB5 hT5; have H5 := Lib.hid (And.intro hB5 hT5); clear hB5 hT5)
      have hb5 : Below wF.heap.size wF w5 := below_turn ((Below.refl _ _).alloc (Nat.le_refl _) _) H5.out.2 (fun t ht => by simp at ht; omega) (by simp)
      have H6 := Lib.hid (And.intro (HA.out.1.below hb5) (And.intro (HA.out.2.1.trans (hb5.mono HA.out.2.1.size)) (And.intro hb5 (show X + 2 ≤ w5.heap.size by have := H5.out.2.size; simp at this; omega))))
      clear hb5
      simp only [Act.put]
      go_cut [12] (fun s wx => ∃ A3 n3 c3, s = .slice A3 n3 c3 ∧ Rd wx A3 n3 c3 held ∧ From (some ⟨g, off, none⟩) A3 ∧ wx = w5)
      case first =>
        by_cases hcA : c = AT
        · have hR := HH.out.2.2.1
          rw [if_pos hcA] at hR
          have HR := Lib.hid (hR.below H6.out.2.2.1)
          clear hR
          subst hcA
          go_wp2_with fail
          go_meet
          exact ⟨_, _, _, rfl, by have h9 := HR.out; rwa [show NN = 0 by omega, Nat.sub_self] at h9, From.refl _, rfl⟩
        · have hR := HH.out.2.2.1
          rw [if_neg hcA] at hR
          have HR := Lib.hid (hR.below H6.out.2.2.1)
          clear hR
          go_wp2_with fail
          go_meet
          have hae : Option.map (fun x : Addr => x.add AT) (some ⟨g, off, none⟩) = some ⟨g, off + AT, none⟩ := by rw [Option.map_some, Addr.add_mid]
          exact ⟨_, _, _, rfl, by have h9 := HR.out; rwa [hae] at h9, by have h9 := HH.out.2.2.2.1; rwa [hae] at h9, rfl⟩
      case rest =>
      obtain ⟨A3, n3, c3', rfl, hR3, hF3, hwe⟩ := hcut
      subst hwe
      obtain ⟨wG, hwG⟩ : ∃ wG, wG = wc := ⟨_, rfl⟩
      subst hwG
      have hcon := content_any (T : Int) A3 n3 c3' held wG hR3
      obtain ⟨pv, hpv⟩ : ∃ pv, plainOk (T : Int) held = pv := ⟨_, rfl⟩
      rw [hpv] at hcon
      have hn3 := Lib.hid hR3.1
      have HP := Lib.hid (And.intro hpv (And.intro hR3 hF3))
      have z0 := H5.out.1.cell 0
      simp only [List.getElem?_toArray, List.getElem?_cons_succ, List.getElem?_cons_zero] at z0
      clear hpv hR3 hF3
      go_wp2_with fail
      refine hcon.mono ?_
      rintro e w7 ⟨rfl, rfl⟩
      clear hcon
      cases pv with
      | false =>
        have HN2 := Lib.hid (show ans = none by rw [← HANS.out, HP.out.1, if_neg (by simp)])
        go_wp2_with (refine wpList_store_arr rfl 25 (.tmp 4) (.tmp 97) rfl X 25 _ [.int .i64 0, .slice none 0 0, .slice none 0 0] H6.out.1 rfl rfl (by kernel_rfl) rfl rfl ?_; intro w9 hB9 hT9; have H9 := Lib.hid (And.intro hB9 hT9); clear hB9 hT9)
        refine bodyPost_ret (node_res (f := zNF) rfl rfl H9.out.1) rfl ?_
        rw [HN2.out]
        have hb9 : Below w.heap.size w w9 := below_turn (H6.out.2.1) H9.out.2 (fun t ht => by simp at ht; omega) (H6.out.2.1).size
        exact ⟨rfl, by first | exact hb9 | (rw [← hX]; exact hb9)⟩
      | true =>
        have HN2 := Lib.hid (show ans = some (.mk T held [], rest) by rw [← HANS.out, HP.out.1, if_pos rfl])
        have hc3m := HP.out.2.1.2.2.1
        have hXG := H6.out.2.2.2
        go_wp2_with (first | (at_builtin; go_loud (refine wp_app2 (.const (.slice none 0 0)) (.tmp 98) wG.heap.size (.slice none 0 0) [] (Own.nil _ _) (Nat.le_refl _) A3 n3 c3' held HP.out.2.1 (by have := HP.out.2.1.1; have := HH.out.1; simp; omega) rfl rfl rfl rfl ?_; intro A6 n6 c6 w8 hi6 hG; have H8 := Lib.hid (And.intro hG (And.intro (H5.out.1.below hG.below) (H6.out.1.below hG.below))); have y0 := H8.out.2.1.cell 0; have y1 := H8.out.2.1.cell 1; have y2 := H8.out.2.1.cell 2; have f1 := H8.out.2.1.frozen 1; simp only [List.getElem?_toArray, List.getElem?_cons_succ, List.getElem?_cons_zero] at y0 y1 y2; clear hG)) | (refine wpList_store_arr rfl 25 (.tmp 4) (.tmp 101) rfl X 25 _ [.int .i64 (T : Int), .slice A6 n6 c6, .slice none 0 0] (H8.out.2.2.far (by simp) _) rfl rfl (by kernel_rfl) rfl rfl ?_; intro w9 hB9 hT9; have H10 := Lib.hid (And.intro hB9 hT9); clear hB9 hT9))
        refine bodyPost_ret (node_res (f := ⟨(T : Int), A6, n6, c6, none, 0, 0⟩) rfl rfl H10.out.1) rfl ?_
        rw [HN2.out]
        have hT8 : Turn [X + 1] w8 (w8.setCell ⟨X + 1, 1, none⟩ (.slice A6 n6 c6)) := (Turn.refl [X + 1] w8).setCell (.inl (by simp)) _
        have hb8 : Below w.heap.size w w8 := H6.out.2.1.trans (H8.out.1.below.mono H6.out.2.1.size)
        have hb9 : Below w.heap.size w w9 := below_turn (below_turn hb8 hT8 (fun t ht => by simp at ht; omega) hb8.size) H10.out.2 (fun t ht => by simp at ht; omega) (by have := hb8.size; have := hT8.size; omega)
        have ho9 := (H8.out.1.own.turn hT8 (fun g hg => by have := (H8.out.1.own.lt hg).1; simp; omega)).turn H10.out.2 (fun g hg => by have := (H8.out.1.own.lt hg).1; simp; omega)
        refine ⟨⟨⟨(T : Int), A6, n6, c6, none, 0, 0⟩, by rw [HH.out.2.2.2.2 _ _ HN2.out rfl]; rfl, ?_⟩, by first | exact hb9 | (rw [← hX]; exact hb9)⟩
        exact NdR.mk ⟨(T : Int), A6, n6, c6, none, 0, 0⟩ held [] [] ho9.rd (fun a ha => ⟨by have := ho9.blk_le ha; have := H6.out.2.1.size; omega, ho9.rd.lt a ha⟩) ⟨rfl, .inl rfl⟩ (Nat.zero_le _) (fun a ha => by cases ha) (fun h => absurd h h48i) rfl (by simp)
end Go.Proofs.Ytgkhhinjdojbhaa
