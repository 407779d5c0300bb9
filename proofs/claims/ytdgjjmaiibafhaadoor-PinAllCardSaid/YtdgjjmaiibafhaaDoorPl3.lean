/-
  The plain law of the hashes: a message in parts is hashed as the message whole; blocks of 64 bits words are those of 32 bits.
-/
import Derived.Test.YtdgjjmaiibafhaaDoorROf
namespace Go.Proofs.YtdgjjmaiibafhaaDoor

/-! ### parts -/
theorem chunk_append (l m : List UInt8) (B k : Nat) (h : (k + 1) * B ≤ l.length) : chunk (l ++ m) B k = chunk l B k := by
  have e : (k + 1) * B = k * B + B := by rw [Nat.add_mul]; omega
  unfold chunk
  rw [List.drop_append_of_le_length (by omega), List.take_append_of_le_length (by simp; omega)]
theorem chunk_drop (l : List UInt8) (B a k : Nat) : chunk (l.drop (a * B)) B k = chunk l B (a + k) := by
  unfold chunk
  rw [List.drop_drop]
  congr 2
  rw [Nat.add_mul]
theorem hsTo_append (kind : Int) (hs : List UInt64) (l m : List UInt8) (B k : Nat) (h : k * B ≤ l.length) : hsTo kind hs (l ++ m) B k = hsTo kind hs l B k := by
  induction k with
  | zero => rfl
  | succ k ih =>
    have e : (k + 1) * B = k * B + B := by rw [Nat.add_mul]; omega
    rw [hsTo, hsTo, ih (by omega), chunk_append _ _ _ _ h]
theorem hsTo_add (kind : Int) (hs : List UInt64) (l : List UInt8) (B a b : Nat) : hsTo kind hs l B (a + b) = hsTo kind (hsTo kind hs l B a) (l.drop (a * B)) B b := by
  induction b with
  | zero => rfl
  | succ b ih => rw [Nat.add_succ, hsTo, ih, hsTo, chunk_drop]
theorem div_parts (B n m : Nat) (hB : 0 < B) : (n + m) / B = n / B + (n - n / B * B + m) / B := by
  have h1 := Nat.div_add_mod n B
  have h2 : n - n / B * B = n % B := by rw [Nat.mul_comm]; omega
  rw [h2]
  have h3 : n + m = B * (n / B) + (n % B + m) := by omega
  rw [h3, Nat.mul_add_div hB]
theorem absorb_parts (kind : Int) (hs : List UInt64) (l m : List UInt8) (hB : 0 < bl kind) : absorb kind (absorb kind hs l) (rest kind l ++ m) = absorb kind hs (l ++ m) := by
  unfold absorb rest
  generalize bl kind = B at *
  have h0 : l.length / B * B ≤ l.length := Nat.div_mul_le_self _ _
  rw [List.length_append, List.length_append, List.length_drop, div_parts B l.length m.length hB, hsTo_add, hsTo_append _ _ _ _ _ _ h0, List.drop_append_of_le_length h0]
theorem rest_parts (kind : Int) (l m : List UInt8) (hB : 0 < bl kind) : rest kind (rest kind l ++ m) = rest kind (l ++ m) := by
  unfold rest
  generalize bl kind = B at *
  have h0 : l.length / B * B ≤ l.length := Nat.div_mul_le_self _ _
  rw [List.length_append, List.length_append, List.length_drop, div_parts B l.length m.length hB, Nat.add_mul, ← List.drop_drop, List.drop_append_of_le_length h0]
theorem bl_pos (kind : Int) (hk : 1 ≤ kind ∧ kind ≤ 5) : 0 < bl kind := by rcases bl_cases kind hk with ⟨_, h⟩ | ⟨_, h⟩ <;> omega
/-- What was written, in whatever parts. -/
theorem writes_flat (kind : Int) (hk : 1 ≤ kind ∧ kind ≤ 5) (ps : List (List UInt8)) : writes kind ps = ⟨absorb kind (startW kind) ps.flatten, rest kind ps.flatten, UInt64.ofNat ps.flatten.length⟩ := by
  have key : ∀ (n : Nat) (ps : List (List UInt8)), ps.length = n → writes kind ps = ⟨absorb kind (startW kind) ps.flatten, rest kind ps.flatten, UInt64.ofNat ps.flatten.length⟩ := by
    intro n
    induction n with
    | zero =>
      intro ps h
      obtain rfl := List.length_eq_zero_iff.1 h
      simp [writes, HSt.start, absorb, rest, hsTo]
    | succ n ih =>
      intro ps h
      rcases List.eq_nil_or_concat ps with rfl | ⟨q, p, rfl⟩
      · simp at h
      · rw [List.concat_eq_append] at h ⊢
        rw [writes_snoc, ih q (by simpa using h)]
        unfold HSt.write
        simp only [List.flatten_append, List.flatten_cons, List.flatten_nil, List.append_nil]
        rw [absorb_parts _ _ _ _ (bl_pos kind hk), rest_parts _ _ _ (bl_pos kind hk), List.length_append, UInt64.ofNat_add]
  exact key _ ps rfl
theorem writes_one (kind : Int) (hk : 1 ≤ kind ∧ kind ≤ 5) (ps : List (List UInt8)) : writes kind ps = writes kind [ps.flatten] := by
  rw [writes_flat kind hk, writes_flat kind hk]; simp

/-! ### the padding -/
theorem padN_eq (B n : Nat) (hB : B = 64 ∨ B = 128) : padN B (n % B) = rzeros B n + 1 := by
  unfold padN rzeros
  rcases hB with rfl | rfl <;> split <;> omega
theorem shl3 (n : Nat) : UInt64.ofNat n <<< 3 = UInt64.ofNat n * 8 := by
  apply UInt64.toNat_inj.1
  rw [UInt64.toNat_shiftLeft, UInt64.toNat_mul]
  simp [Nat.shiftLeft_eq]
theorem shr61 (n : Nat) (h : n < 2 ^ 61) : UInt64.ofNat n >>> 61 = 0 := by
  apply UInt64.toNat_inj.1
  rw [UInt64.toNat_shiftRight]
  simp [Nat.shiftRight_eq_div_pow]
  omega
theorem sum_pad (kind : Int) (hk : 1 ≤ kind ∧ kind ≤ 5) (l : List UInt8) (h : l.length < 2 ^ 61) : (writes kind [l]).sum kind = (wordsOf kind (absorb kind (startW kind) (rpad (bl kind) l))).take (hsize kind).toNat := by
  rw [writes_flat kind hk]
  unfold HSt.sum sumOf
  simp only [List.flatten_cons, List.flatten_nil, List.append_nil]
  rw [absorb_parts _ _ _ _ (bl_pos kind hk)]
  congr 3
  have hr : (rest kind l).length = l.length % bl kind := by
    unfold rest
    rw [List.length_drop]
    have := Nat.div_add_mod l.length (bl kind)
    rw [Nat.mul_comm]; omega
  rw [hr]
  have hB : bl kind = 64 ∨ bl kind = 128 := by rcases bl_cases kind hk with ⟨_, h⟩ | ⟨_, h⟩ <;> simp [h]
  unfold padB
  rw [padN_eq _ _ hB, Nat.add_sub_cancel]
  unfold rpad lenB zs
  rcases hB with hB | hB <;> rw [hB]
  · simp [shl3, UInt64.ofNat_mul]
  · simp [shl3, shr61 _ h, UInt64.ofNat_mul]
    rfl

/-! ### words of 64 bits that stand for words of 32 -/
theorem schedTo_congr {α : Type} (f g : Nat → α) (next : List α → Nat → α) (n : Nat) (h : ∀ k, k < 16 → f k = g k) : schedTo f next n = schedTo g next n := by
  induction n with
  | zero => rfl
  | succ n ih =>
    rw [schedTo, schedTo, ih]
    by_cases h16 : n < 16
    · rw [if_pos h16, if_pos h16, h n h16]
    · rw [if_neg h16, if_neg h16]
theorem getD_take (l : List UInt8) (B k : Nat) (h : k < B) : (l.take B).getD k 0 = l.getD k 0 := by
  simp [List.getD, h]
theorem word32_take (l : List UInt8) (B k : Nat) (h : k + 3 < B) : word32 (l.take B) k = word32 l k := by
  unfold word32
  rw [getD_take _ _ _ (by omega), getD_take _ _ _ (by omega), getD_take _ _ _ (by omega), getD_take _ _ _ (by omega)]
theorem word64_take (l : List UInt8) (B k : Nat) (h : k + 7 < B) : word64 (l.take B) k = word64 l k := by
  rw [word64_two, word64_two, word32_take _ _ _ (by omega), word32_take _ _ _ (by omega)]
theorem sched256_take (p : List UInt8) (n : Nat) : sched256 (p.take 64) n = sched256 p n := schedTo_congr _ _ _ _ fun k hk => word32_take p 64 (4 * k) (by omega)
theorem sched1_take (p : List UInt8) (n : Nat) : sched1 (p.take 64) n = sched1 p n := schedTo_congr _ _ _ _ fun k hk => word32_take p 64 (4 * k) (by omega)
theorem sched512_take (p : List UInt8) (n : Nat) : sched512 (p.take 128) n = sched512 p n := schedTo_congr _ _ _ _ fun k hk => word64_take p 128 (8 * k) (by omega)
theorem run256_ktab (ws : List UInt32) (v : V8 UInt32) (n : Nat) (h : n ≤ 64) : run256 (kTab32.take 64) ws v n = run256 kTab32 ws v n := by
  induction n with
  | zero => rfl
  | succ n ih =>
    rw [run256, run256, ih (by omega)]
    congr 1
    simp [List.getD, show n < 64 by omega]
theorem hsTo_len8 (kind : Int) (hs : List UInt64) (l : List UInt8) (B k : Nat) (h : hs.length = 8) : (hsTo kind hs l B k).length = 8 := hsTo_len kind hs l B k h
theorem to256 (kind : Int) (hk : kind = 2 ∨ kind = 3) (hs : List UInt64) (H : List UInt32) (P : List UInt8) (h0 : hs.map UInt64.toUInt32 = H) (k : Nat) : (hsTo kind hs P 64 k).map UInt64.toUInt32 = rTosha256 H P k := by
  induction k with
  | zero => exact h0
  | succ k ih =>
    have e : takeK kind (hsTo kind hs P 64 k) (chunk P 64 k) = take256 (hsTo kind hs P 64 k) (chunk P 64 k) := by
      unfold takeK; rcases hk with rfl | rfl <;> simp
    rw [hsTo, e, rTosha256, ← ih]
    unfold take256 rTakesha256 out256 chunk
    rw [sched256_take, run256_ktab _ _ _ (by omega)]
    generalize (run256 kTab32 _ _ 64).list = o
    rw [List.map_zipWith, List.zipWith_map_left]
    congr 1
    funext x y
    exact UInt32.toUInt32_toUInt64 _
theorem to512 (kind : Int) (hk : kind = 4 ∨ kind = 5) (hs : List UInt64) (P : List UInt8) (k : Nat) : hsTo kind hs P 128 k = rTosha512 hs P k := by
  induction k with
  | zero => rfl
  | succ k ih =>
    have e : takeK kind (hsTo kind hs P 128 k) (chunk P 128 k) = take512 (hsTo kind hs P 128 k) (chunk P 128 k) := by
      unfold takeK; rcases hk with rfl | rfl <;> simp
    rw [hsTo, e, rTosha512, ← ih]
    unfold take512 rTakesha512 out512 chunk
    rw [sched512_take]
theorem to1 (hs : List UInt64) (H : List UInt32) (P : List UInt8) (h8 : hs.length = 8) (h0 : (hs.map UInt64.toUInt32).take 5 = H) (k : Nat) : ((hsTo 1 hs P 64 k).map UInt64.toUInt32).take 5 = rTo1 H P k := by
  induction k with
  | zero => exact h0
  | succ k ih =>
    have e : takeK 1 (hsTo 1 hs P 64 k) (chunk P 64 k) = take1 (hsTo 1 hs P 64 k) (chunk P 64 k) := by simp [takeK]
    have hl := hsTo_len 1 hs P 64 k h8
    rw [hsTo, e, rTo1, ← ih]
    generalize hsTo 1 hs P 64 k = z at *
    match z, hl with
    | [a, b, c, d, e, f, g, i], _ =>
      unfold take1 rTake1 out1 chunk
      rw [sched1_take]
      have hv : v5 [a, b, c, d, e, f, g, i] = v5of (([a, b, c, d, e, f, g, i].map UInt64.toUInt32).take 5) := rfl
      rw [hv]
      generalize run1 _ _ 80 = o
      obtain ⟨o1, o2, o3, o4, o5⟩ := o
      simp only [V5.list, List.map_cons, List.map_nil, List.zipWith_cons_cons, List.take_succ_cons, List.take_zero, List.cons_append, UInt32.toUInt32_toUInt64, List.zipWith_nil_right, List.nil_append]
theorem flat_take (l : List UInt32) (n : Nat) : (l.flatMap bytes32).take (n * 4) = (l.take n).flatMap bytes32 := by
  induction l generalizing n with
  | nil => simp
  | cons x l ih =>
    cases n with
    | zero => simp
    | succ n =>
      rw [List.flatMap_cons, List.take_succ_cons, List.flatMap_cons, ← ih n]
      have e : (n + 1) * 4 = (bytes32 x).length + n * 4 := by simp [bytes32]; omega
      rw [e, List.take_length_add_append]
theorem flat_map32 (hs : List UInt64) : (hs.flatMap fun x => bytes32 x.toUInt32) = (hs.map UInt64.toUInt32).flatMap bytes32 := by
  rw [List.flatMap_map]
theorem start_1 : ((startW 1).map UInt64.toUInt32).take 5 = sha1H := by decide
theorem start_2 : (startW 2).map UInt64.toUInt32 = sha224H := by decide
theorem start_3 : (startW 3).map UInt64.toUInt32 = sha256H := by decide
theorem start_4 : startW 4 = sha384H := by decide
theorem start_5 : startW 5 = sha512H := by decide
/-- THE PLAIN LAW: what is written in parts is hashed as the reference hashes it whole. -/
theorem sum_rof (kind : Int) (hk : 1 ≤ kind ∧ kind ≤ 5) (l : List UInt8) (h : l.length ≤ 140737488352000) : (writes kind [l]).sum kind = rof kind l := by
  rw [sum_pad kind hk l (by omega)]
  have h1 := h
  have hcase : kind = 1 ∨ kind = 2 ∨ kind = 3 ∨ kind = 4 ∨ kind = 5 := by omega
  rcases hcase with rfl | rfl | rfl | rfl | rfl
  · show List.take 20 (wordsOf 1 (hsTo 1 (startW 1) (rpad 64 l) 64 ((rpad 64 l).length / 64))) = _
    unfold wordsOf rof
    rw [if_pos (by rfl), if_pos rfl, flat_map32, show (20 : Nat) = 5 * 4 from rfl, flat_take, to1 (startW 1) sha1H _ rfl start_1]
  · show List.take 28 (wordsOf 2 (hsTo 2 (startW 2) (rpad 64 l) 64 ((rpad 64 l).length / 64))) = _
    unfold wordsOf rof
    rw [if_pos (by rfl), if_neg (by decide), if_pos rfl, flat_map32, to256 2 (.inl rfl) (startW 2) sha224H _ start_2]
  · show List.take 32 (wordsOf 3 (hsTo 3 (startW 3) (rpad 64 l) 64 ((rpad 64 l).length / 64))) = _
    unfold wordsOf rof
    rw [if_pos (by rfl), if_neg (by decide), if_neg (by decide), if_pos rfl, flat_map32, to256 3 (.inr rfl) (startW 3) sha256H _ start_3]
    exact List.take_of_length_le (by rw [flat_len _ _ 4 (fun _ => rfl), rTosha256_len _ _ _ rfl]; omega)
  · show List.take 48 (wordsOf 4 (hsTo 4 (startW 4) (rpad 128 l) 128 ((rpad 128 l).length / 128))) = _
    unfold wordsOf rof
    rw [if_neg (by decide), if_neg (by decide), if_neg (by decide), if_neg (by decide), if_pos rfl, to512 4 (.inl rfl), start_4]
  · show List.take 64 (wordsOf 5 (hsTo 5 (startW 5) (rpad 128 l) 128 ((rpad 128 l).length / 128))) = _
    unfold wordsOf rof
    rw [if_neg (by decide), if_neg (by decide), if_neg (by decide), if_neg (by decide), if_neg (by decide), if_pos rfl, to512 5 (.inr rfl), start_5]
    exact List.take_of_length_le (by rw [flat_len _ _ 8 (fun _ => rfl), rTosha512_len _ _ _ rfl]; omega)
theorem writes_rof (kind : Int) (hk : 1 ≤ kind ∧ kind ≤ 5) (ps : List (List UInt8)) (h : ps.flatten.length ≤ 140737488352000) : (writes kind ps).sum kind = rof kind ps.flatten := by
  rw [writes_one kind hk, sum_rof kind hk _ h]
end Go.Proofs.YtdgjjmaiibafhaaDoor
