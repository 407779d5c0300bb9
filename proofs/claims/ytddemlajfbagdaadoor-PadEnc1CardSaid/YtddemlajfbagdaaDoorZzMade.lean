/-
  Contract of the reference's Of.
  The plain law of the hashes: a message in parts is hashed as the message whole; blocks of 64 bits words are those of 32 bits.
  Contracts of the hash states, as a law uses them: a state made by the law, what is written into it, its sum.
-/
import Derived.Test.YtddemlajfbagdaaDoorZzRk2
import Derived.Test.YtddemlajfbagdaaDoorR512
import Derived.Test.YtddemlajfbagdaaDoorZzRot
namespace Go.Proofs.YtddemlajfbagdaaDoor
open Go.RowKit

def sha224H : List UInt32 := [0xc1059ed8, 0x367cd507, 0x3070dd17, 0xf70e5939, 0xffc00b31, 0x68581511, 0x64f98fa7, 0xbefa4fa4]
def sha256H : List UInt32 := [0x6a09e667, 0xbb67ae85, 0x3c6ef372, 0xa54ff53a, 0x510e527f, 0x9b05688c, 0x1f83d9ab, 0x5be0cd19]
def sha384H : List UInt64 := [0xcbbb9d5dc1059ed8, 0x629a292a367cd507, 0x9159015a3070dd17, 0x152fecd8f70e5939, 0x67332667ffc00b31, 0x8eb44a8768581511, 0xdb0c2e0d64f98fa7, 0x47b5481dbefa4fa4]
def sha512H : List UInt64 := [0x6a09e667f3bcc908, 0xbb67ae8584caa73b, 0x3c6ef372fe94f82b, 0xa54ff53a5f1d36f1, 0x510e527fade682d1, 0x9b05688c2b3e6c1f, 0x1f83d9abfb41bd6b, 0x5be0cd19137e2179]
/-- The reference's hash of a message. -/
def rof (kind : Int) (l : List UInt8) : List UInt8 :=
  if kind = 1 then (rTo1 sha1H (rpad 64 l) ((rpad 64 l).length / 64)).flatMap bytes32
  else if kind = 2 then ((rTosha256 sha224H (rpad 64 l) ((rpad 64 l).length / 64)).flatMap bytes32).take 28
  else if kind = 3 then (rTosha256 sha256H (rpad 64 l) ((rpad 64 l).length / 64)).flatMap bytes32
  else if kind = 4 then ((rTosha512 sha384H (rpad 128 l) ((rpad 128 l).length / 128)).flatMap bytes64).take 48
  else if kind = 5 then (rTosha512 sha512H (rpad 128 l) ((rpad 128 l).length / 128)).flatMap bytes64
  else []
theorem Own.form_n {w : World} {base : Nat} {v : Value} {l : List UInt8} (h : Own w base v l) (N : Nat) (hl : l.length = N) (hN : 0 < N) : ∃ g c, v = .slice (some ⟨g, 0, none⟩) N c ∧ N ≤ c ∧ base ≤ g := by
  obtain ⟨g, c, rfl⟩ := h.form (h.ne_nil (by omega))
  subst hl
  exact ⟨g, c, rfl, h.blk.2.1, h.blk.2.2.2.1⟩
/-- A row of bytes as a result. -/
def RowRes (w : World) (l : List UInt8) (e : Ending) (w' : World) : Prop := ∃ A n c, e = .returned (.slice A n c) ∧ Own w' w.heap.size (.slice A n c) l ∧ Below w.heap.size w w'
theorem RowRes.of {w w' : World} {l : List UInt8} {v : Value} (ho : Own w' w.heap.size v l) (hb : Below w.heap.size w w') : RowRes w l (.returned v) w' := by
  obtain ⟨A, c, rfl, _⟩ := ho.shape
  exact ⟨A, _, c, rfl, ho, hb⟩
theorem rof_none (kind : Int) (hk : kind < 1 ∨ 5 < kind) (v : Value) (w : World) :
    Calls Tryd.prog 36 #[.int .i64 kind, v] w fun e w' => e = .returned (.slice none 0 0) ∧ w = w' := by
  have h1 : (kind == 1) = false := by rw [beq_eq_false_iff_ne]; omega
  have h2 : (kind == 2) = false := by rw [beq_eq_false_iff_ne]; omega
  have h3 : (kind == 3) = false := by rw [beq_eq_false_iff_ne]; omega
  have h4 : (kind == 4) = false := by rw [beq_eq_false_iff_ne]; omega
  have h5 : (kind == 5) = false := by rw [beq_eq_false_iff_ne]; omega
  clear hk
  go_enter Tryd.func36, Tryd.ntmps36
  go_wp2
  go_ret
  exact ⟨rfl, rfl⟩
theorem rof1 (A : Option Addr) (m c : Nat) (l : List UInt8) (w : World) (hr : Rd w A m c l) (hl : l.length ≤ 140737488352000) :
    Calls Tryd.prog 36 #[.int .i64 1, .slice A m c] w (RowRes w (rof 1 l)) := by
  have HS := Lib.hid (rsha1_any A m c l w hr hl)
  clear hr hl
  go_enter Tryd.func36, Tryd.ntmps36
  go_wp2_with (go_at_call 53; with_reducible refine HS.out.mono ?_; rintro e w5 ⟨v5, rfl, hO5, hb5⟩)
  go_ret
  exact RowRes.of (by simpa [rof] using hO5) hb5
theorem rof2 (A : Option Addr) (m c : Nat) (l : List UInt8) (w : World) (hr : Rd w A m c l) (hl : l.length ≤ 140737488352000) :
    Calls Tryd.prog 36 #[.int .i64 2, .slice A m c] w (RowRes w (rof 2 l)) := by
  have hb0 : Below w.heap.size w (w.alloc (.cells (sha224H.map U32).toArray 75)) := (Below.refl _ _).alloc (Nat.le_refl _) _
  have HS := Lib.hid (rsha256_any A m c w.heap.size 8 l sha224H _ (hr.below hb0) hl (Blk.new w _ _) rfl)
  have HB := Lib.hid hb0
  clear hr hl hb0
  go_enter Tryd.func36, Tryd.ntmps36
  go_wp2_with fail
  refine HS.out.mono ?_
  rintro e w5 ⟨v5, rfl, hO5, hT5⟩
  have hb5 := below_turn HB.out hT5 (by simp) (by simp)
  have hlen : ((rTosha256 sha224H (rpad 64 l) ((rpad 64 l).length / 64)).flatMap bytes32).length = 32 := by rw [flat_len _ _ 4 (fun _ => rfl), rTosha256_len _ _ _ rfl]
  have hO6 := hO5.mono (base' := w.heap.size) (by simp)
  obtain ⟨g5, c5, rfl, hc5, _⟩ := hO6.form_n 32 hlen (by decide)
  have hO7 := hO6.front (k := 28) (by omega)
  have H := Lib.hid (And.intro hO7 hb5)
  have hci : (28 : Int) ≤ c5 := by omega
  clear hO5 hO6 hO7 hT5 hb5 hlen HS HB
  go_wp2_with fail
  go_ret
  exact RowRes.of (by simpa [rof] using H.out.1) H.out.2
theorem rof3 (A : Option Addr) (m c : Nat) (l : List UInt8) (w : World) (hr : Rd w A m c l) (hl : l.length ≤ 140737488352000) :
    Calls Tryd.prog 36 #[.int .i64 3, .slice A m c] w (RowRes w (rof 3 l)) := by
  have hb0 : Below w.heap.size w (w.alloc (.cells (sha256H.map U32).toArray 75)) := (Below.refl _ _).alloc (Nat.le_refl _) _
  have HS := Lib.hid (rsha256_any A m c w.heap.size 8 l sha256H _ (hr.below hb0) hl (Blk.new w _ _) rfl)
  have HB := Lib.hid hb0
  clear hr hl hb0
  go_enter Tryd.func36, Tryd.ntmps36
  go_wp2_with fail
  refine HS.out.mono ?_
  rintro e w5 ⟨v5, rfl, hO5, hT5⟩
  have hb5 := below_turn HB.out hT5 (by simp) (by simp)
  have hlen : ((rTosha256 sha256H (rpad 64 l) ((rpad 64 l).length / 64)).flatMap bytes32).length = 32 := by rw [flat_len _ _ 4 (fun _ => rfl), rTosha256_len _ _ _ rfl]
  have hO6 := hO5.mono (base' := w.heap.size) (by simp)
  obtain ⟨g5, c5, rfl, hc5, _⟩ := hO6.form_n 32 hlen (by decide)
  have H := Lib.hid (And.intro hO6 hb5)
  clear hO5 hO6 hT5 hb5 hlen HS HB
  go_wp2_with fail
  go_ret
  exact RowRes.of (by simpa [rof] using H.out.1) H.out.2
theorem rof4 (A : Option Addr) (m c : Nat) (l : List UInt8) (w : World) (hr : Rd w A m c l) (hl : l.length ≤ 140737488352000) :
    Calls Tryd.prog 36 #[.int .i64 4, .slice A m c] w (RowRes w (rof 4 l)) := by
  have hb0 : Below w.heap.size w (w.alloc (.cells (sha384H.map U64).toArray 78)) := (Below.refl _ _).alloc (Nat.le_refl _) _
  have HS := Lib.hid (rsha512_any A m c w.heap.size 8 l sha384H _ (hr.below hb0) hl (Blk.new w _ _) rfl)
  have HB := Lib.hid hb0
  clear hr hl hb0
  go_enter Tryd.func36, Tryd.ntmps36
  go_wp2_with fail
  refine HS.out.mono ?_
  rintro e w5 ⟨v5, rfl, hO5, hT5⟩
  have hb5 := below_turn HB.out hT5 (by simp) (by simp)
  have hlen : ((rTosha512 sha384H (rpad 128 l) ((rpad 128 l).length / 128)).flatMap bytes64).length = 64 := by rw [flat_len _ _ 8 (fun _ => rfl), rTosha512_len _ _ _ rfl]
  have hO6 := hO5.mono (base' := w.heap.size) (by simp)
  obtain ⟨g5, c5, rfl, hc5, _⟩ := hO6.form_n 64 hlen (by decide)
  have hO7 := hO6.front (k := 48) (by omega)
  have H := Lib.hid (And.intro hO7 hb5)
  have hci : (48 : Int) ≤ c5 := by omega
  clear hO5 hO6 hO7 hT5 hb5 hlen HS HB
  go_wp2_with fail
  go_ret
  exact RowRes.of (by simpa [rof] using H.out.1) H.out.2
theorem rof5 (A : Option Addr) (m c : Nat) (l : List UInt8) (w : World) (hr : Rd w A m c l) (hl : l.length ≤ 140737488352000) :
    Calls Tryd.prog 36 #[.int .i64 5, .slice A m c] w (RowRes w (rof 5 l)) := by
  have hb0 : Below w.heap.size w (w.alloc (.cells (sha512H.map U64).toArray 78)) := (Below.refl _ _).alloc (Nat.le_refl _) _
  have HS := Lib.hid (rsha512_any A m c w.heap.size 8 l sha512H _ (hr.below hb0) hl (Blk.new w _ _) rfl)
  have HB := Lib.hid hb0
  clear hr hl hb0
  go_enter Tryd.func36, Tryd.ntmps36
  go_wp2_with fail
  refine HS.out.mono ?_
  rintro e w5 ⟨v5, rfl, hO5, hT5⟩
  have hb5 := below_turn HB.out hT5 (by simp) (by simp)
  have hlen : ((rTosha512 sha512H (rpad 128 l) ((rpad 128 l).length / 128)).flatMap bytes64).length = 64 := by rw [flat_len _ _ 8 (fun _ => rfl), rTosha512_len _ _ _ rfl]
  have hO6 := hO5.mono (base' := w.heap.size) (by simp)
  obtain ⟨g5, c5, rfl, hc5, _⟩ := hO6.form_n 64 hlen (by decide)
  have H := Lib.hid (And.intro hO6 hb5)
  clear hO5 hO6 hT5 hb5 hlen HS HB
  go_wp2_with fail
  go_ret
  exact RowRes.of (by simpa [rof] using H.out.1) H.out.2
theorem rof_any (kind : Int) (hk : 1 ≤ kind ∧ kind ≤ 5) (A : Option Addr) (m c : Nat) (l : List UInt8) (w : World) (hr : Rd w A m c l) (hl : l.length ≤ 140737488352000) :
    Calls Tryd.prog 36 #[.int .i64 kind, .slice A m c] w (RowRes w (rof kind l)) := by
  have hcase : kind = 1 ∨ kind = 2 ∨ kind = 3 ∨ kind = 4 ∨ kind = 5 := by omega
  rcases hcase with rfl | rfl | rfl | rfl | rfl
  · exact rof1 A m c l w hr hl
  · exact rof2 A m c l w hr hl
  · exact rof3 A m c l w hr hl
  · exact rof4 A m c l w hr hl
  · exact rof5 A m c l w hr hl
end Go.Proofs.YtddemlajfbagdaaDoor
namespace Go.Proofs.YtddemlajfbagdaaDoor

/-! ### parts -/
theorem chunk_append (l m : List UInt8) (B k : Nat) (h : (k + 1) * B ≤ l.length) : chunk (l ++ m) B k = chunk l B k := by
  have e : (k + 1) * B = k * B + B := by rw [Nat.add_mul]; omega
  unfold chunk
  rw [List.drop_append_of_le_length (by omega), List.take_append_of_le_length (by simp; omega)]
theorem chunk_drop (l : List UInt8) (B a k : Nat) : chunk (l.drop (a * B)) B k = chunk l B (a + k) := by
  unfold chunk
  rw [List.drop_drop]
  congr 2
  rw [Nat.add_mul]
theorem hsTo_append (kind : Int) (hs : List UInt64) (l m : List UInt8) (B k : Nat) (h : k * B ≤ l.length) : hsTo kind hs (l ++ m) B k = hsTo kind hs l B k := by
  induction k with
  | zero => rfl
  | succ k ih =>
    have e : (k + 1) * B = k * B + B := by rw [Nat.add_mul]; omega
    rw [hsTo, hsTo, ih (by omega), chunk_append _ _ _ _ h]
theorem hsTo_add (kind : Int) (hs : List UInt64) (l : List UInt8) (B a b : Nat) : hsTo kind hs l B (a + b) = hsTo kind (hsTo kind hs l B a) (l.drop (a * B)) B b := by
  induction b with
  | zero => rfl
  | succ b ih => rw [Nat.add_succ, hsTo, ih, hsTo, chunk_drop]
theorem div_parts (B n m : Nat) (hB : 0 < B) : (n + m) / B = n / B + (n - n / B * B + m) / B := by
  have h1 := Nat.div_add_mod n B
  have h2 : n - n / B * B = n % B := by rw [Nat.mul_comm]; omega
  rw [h2]
  have h3 : n + m = B * (n / B) + (n % B + m) := by omega
  rw [h3, Nat.mul_add_div hB]
theorem absorb_parts (kind : Int) (hs : List UInt64) (l m : List UInt8) (hB : 0 < bl kind) : absorb kind (absorb kind hs l) (rest kind l ++ m) = absorb kind hs (l ++ m) := by
  unfold absorb rest
  generalize bl kind = B at *
  have h0 : l.length / B * B ≤ l.length := Nat.div_mul_le_self _ _
  rw [List.length_append, List.length_append, List.length_drop, div_parts B l.length m.length hB, hsTo_add, hsTo_append _ _ _ _ _ _ h0, List.drop_append_of_le_length h0]
theorem rest_parts (kind : Int) (l m : List UInt8) (hB : 0 < bl kind) : rest kind (rest kind l ++ m) = rest kind (l ++ m) := by
  unfold rest
  generalize bl kind = B at *
  have h0 : l.length / B * B ≤ l.length := Nat.div_mul_le_self _ _
  rw [List.length_append, List.length_append, List.length_drop, div_parts B l.length m.length hB, Nat.add_mul, ← List.drop_drop, List.drop_append_of_le_length h0]
theorem bl_pos (kind : Int) (hk : 1 ≤ kind ∧ kind ≤ 5) : 0 < bl kind := by rcases bl_cases kind hk with ⟨_, h⟩ | ⟨_, h⟩ <;> omega
/-- What was written, in whatever parts. -/
theorem writes_flat (kind : Int) (hk : 1 ≤ kind ∧ kind ≤ 5) (ps : List (List UInt8)) : writes kind ps = ⟨absorb kind (startW kind) ps.flatten, rest kind ps.flatten, UInt64.ofNat ps.flatten.length⟩ := by
  have key : ∀ (n : Nat) (ps : List (List UInt8)), ps.length = n → writes kind ps = ⟨absorb kind (startW kind) ps.flatten, rest kind ps.flatten, UInt64.ofNat ps.flatten.length⟩ := by
    intro n
    induction n with
    | zero =>
      intro ps h
      obtain rfl := List.length_eq_zero_iff.1 h
      simp [writes, HSt.start, absorb, rest, hsTo]
    | succ n ih =>
      intro ps h
      rcases List.eq_nil_or_concat ps with rfl | ⟨q, p, rfl⟩
      · simp at h
      · rw [List.concat_eq_append] at h ⊢
        rw [writes_snoc, ih q (by simpa using h)]
        unfold HSt.write
        simp only [List.flatten_append, List.flatten_cons, List.flatten_nil, List.append_nil]
        rw [absorb_parts _ _ _ _ (bl_pos kind hk), rest_parts _ _ _ (bl_pos kind hk), List.length_append, UInt64.ofNat_add]
  exact key _ ps rfl
theorem writes_one (kind : Int) (hk : 1 ≤ kind ∧ kind ≤ 5) (ps : List (List UInt8)) : writes kind ps = writes kind [ps.flatten] := by
  rw [writes_flat kind hk, writes_flat kind hk]; simp

/-! ### the padding -/
theorem padN_eq (B n : Nat) (hB : B = 64 ∨ B = 128) : padN B (n % B) = rzeros B n + 1 := by
  unfold padN rzeros
  rcases hB with rfl | rfl <;> split <;> omega
theorem shl3 (n : Nat) : UInt64.ofNat n <<< 3 = UInt64.ofNat n * 8 := by
  apply UInt64.toNat_inj.1
  rw [UInt64.toNat_shiftLeft, UInt64.toNat_mul]
  simp [Nat.shiftLeft_eq]
theorem shr61 (n : Nat) (h : n < 2 ^ 61) : UInt64.ofNat n >>> 61 = 0 := by
  apply UInt64.toNat_inj.1
  rw [UInt64.toNat_shiftRight]
  simp [Nat.shiftRight_eq_div_pow]
  omega
theorem sum_pad (kind : Int) (hk : 1 ≤ kind ∧ kind ≤ 5) (l : List UInt8) (h : l.length < 2 ^ 61) : (writes kind [l]).sum kind = (wordsOf kind (absorb kind (startW kind) (rpad (bl kind) l))).take (hsize kind).toNat := by
  rw [writes_flat kind hk]
  unfold HSt.sum sumOf
  simp only [List.flatten_cons, List.flatten_nil, List.append_nil]
  rw [absorb_parts _ _ _ _ (bl_pos kind hk)]
  congr 3
  have hr : (rest kind l).length = l.length % bl kind := by
    unfold rest
    rw [List.length_drop]
    have := Nat.div_add_mod l.length (bl kind)
    rw [Nat.mul_comm]; omega
  rw [hr]
  have hB : bl kind = 64 ∨ bl kind = 128 := by rcases bl_cases kind hk with ⟨_, h⟩ | ⟨_, h⟩ <;> simp [h]
  unfold padB
  rw [padN_eq _ _ hB, Nat.add_sub_cancel]
  unfold rpad lenB zs
  rcases hB with hB | hB <;> rw [hB]
  · simp [shl3, UInt64.ofNat_mul]
  · simp [shl3, shr61 _ h, UInt64.ofNat_mul]
    rfl

/-! ### words of 64 bits that stand for words of 32 -/
theorem schedTo_congr {α : Type} (f g : Nat → α) (next : List α → Nat → α) (n : Nat) (h : ∀ k, k < 16 → f k = g k) : schedTo f next n = schedTo g next n := by
  induction n with
  | zero => rfl
  | succ n ih =>
    rw [schedTo, schedTo, ih]
    by_cases h16 : n < 16
    · rw [if_pos h16, if_pos h16, h n h16]
    · rw [if_neg h16, if_neg h16]
theorem getD_take (l : List UInt8) (B k : Nat) (h : k < B) : (l.take B).getD k 0 = l.getD k 0 := by
  simp [List.getD, h]
theorem word32_take (l : List UInt8) (B k : Nat) (h : k + 3 < B) : word32 (l.take B) k = word32 l k := by
  unfold word32
  rw [getD_take _ _ _ (by omega), getD_take _ _ _ (by omega), getD_take _ _ _ (by omega), getD_take _ _ _ (by omega)]
theorem word64_take (l : List UInt8) (B k : Nat) (h : k + 7 < B) : word64 (l.take B) k = word64 l k := by
  rw [word64_two, word64_two, word32_take _ _ _ (by omega), word32_take _ _ _ (by omega)]
theorem sched256_take (p : List UInt8) (n : Nat) : sched256 (p.take 64) n = sched256 p n := schedTo_congr _ _ _ _ fun k hk => word32_take p 64 (4 * k) (by omega)
theorem sched1_take (p : List UInt8) (n : Nat) : sched1 (p.take 64) n = sched1 p n := schedTo_congr _ _ _ _ fun k hk => word32_take p 64 (4 * k) (by omega)
theorem sched512_take (p : List UInt8) (n : Nat) : sched512 (p.take 128) n = sched512 p n := schedTo_congr _ _ _ _ fun k hk => word64_take p 128 (8 * k) (by omega)
theorem run256_ktab (ws : List UInt32) (v : V8 UInt32) (n : Nat) (h : n ≤ 64) : run256 (kTab32.take 64) ws v n = run256 kTab32 ws v n := by
  induction n with
  | zero => rfl
  | succ n ih =>
    rw [run256, run256, ih (by omega)]
    congr 1
    simp [List.getD, show n < 64 by omega]
theorem hsTo_len8 (kind : Int) (hs : List UInt64) (l : List UInt8) (B k : Nat) (h : hs.length = 8) : (hsTo kind hs l B k).length = 8 := hsTo_len kind hs l B k h
theorem to256 (kind : Int) (hk : kind = 2 ∨ kind = 3) (hs : List UInt64) (H : List UInt32) (P : List UInt8) (h0 : hs.map UInt64.toUInt32 = H) (k : Nat) : (hsTo kind hs P 64 k).map UInt64.toUInt32 = rTosha256 H P k := by
  induction k with
  | zero => exact h0
  | succ k ih =>
    have e : takeK kind (hsTo kind hs P 64 k) (chunk P 64 k) = take256 (hsTo kind hs P 64 k) (chunk P 64 k) := by
      unfold takeK; rcases hk with rfl | rfl <;> simp
    rw [hsTo, e, rTosha256, ← ih]
    unfold take256 rTakesha256 out256 chunk
    rw [sched256_take, run256_ktab _ _ _ (by omega)]
    generalize (run256 kTab32 _ _ 64).list = o
    rw [List.map_zipWith, List.zipWith_map_left]
    congr 1
    funext x y
    exact UInt32.toUInt32_toUInt64 _
theorem to512 (kind : Int) (hk : kind = 4 ∨ kind = 5) (hs : List UInt64) (P : List UInt8) (k : Nat) : hsTo kind hs P 128 k = rTosha512 hs P k := by
  induction k with
  | zero => rfl
  | succ k ih =>
    have e : takeK kind (hsTo kind hs P 128 k) (chunk P 128 k) = take512 (hsTo kind hs P 128 k) (chunk P 128 k) := by
      unfold takeK; rcases hk with rfl | rfl <;> simp
    rw [hsTo, e, rTosha512, ← ih]
    unfold take512 rTakesha512 out512 chunk
    rw [sched512_take]
theorem to1 (hs : List UInt64) (H : List UInt32) (P : List UInt8) (h8 : hs.length = 8) (h0 : (hs.map UInt64.toUInt32).take 5 = H) (k : Nat) : ((hsTo 1 hs P 64 k).map UInt64.toUInt32).take 5 = rTo1 H P k := by
  induction k with
  | zero => exact h0
  | succ k ih =>
    have e : takeK 1 (hsTo 1 hs P 64 k) (chunk P 64 k) = take1 (hsTo 1 hs P 64 k) (chunk P 64 k) := by simp [takeK]
    have hl := hsTo_len 1 hs P 64 k h8
    rw [hsTo, e, rTo1, ← ih]
    generalize hsTo 1 hs P 64 k = z at *
    match z, hl with
    | [a, b, c, d, e, f, g, i], _ =>
      unfold take1 rTake1 out1 chunk
      rw [sched1_take]
      have hv : v5 [a, b, c, d, e, f, g, i] = v5of (([a, b, c, d, e, f, g, i].map UInt64.toUInt32).take 5) := rfl
      rw [hv]
      generalize run1 _ _ 80 = o
      obtain ⟨o1, o2, o3, o4, o5⟩ := o
      simp only [V5.list, List.map_cons, List.map_nil, List.zipWith_cons_cons, List.take_succ_cons, List.take_zero, List.cons_append, UInt32.toUInt32_toUInt64, List.zipWith_nil_right, List.nil_append]
theorem flat_take (l : List UInt32) (n : Nat) : (l.flatMap bytes32).take (n * 4) = (l.take n).flatMap bytes32 := by
  induction l generalizing n with
  | nil => simp
  | cons x l ih =>
    cases n with
    | zero => simp
    | succ n =>
      rw [List.flatMap_cons, List.take_succ_cons, List.flatMap_cons, ← ih n]
      have e : (n + 1) * 4 = (bytes32 x).length + n * 4 := by simp [bytes32]; omega
      rw [e, List.take_length_add_append]
theorem flat_map32 (hs : List UInt64) : (hs.flatMap fun x => bytes32 x.toUInt32) = (hs.map UInt64.toUInt32).flatMap bytes32 := by
  rw [List.flatMap_map]
theorem start_1 : ((startW 1).map UInt64.toUInt32).take 5 = sha1H := by decide
theorem start_2 : (startW 2).map UInt64.toUInt32 = sha224H := by decide
theorem start_3 : (startW 3).map UInt64.toUInt32 = sha256H := by decide
theorem start_4 : startW 4 = sha384H := by decide
theorem start_5 : startW 5 = sha512H := by decide
/-- THE PLAIN LAW: what is written in parts is hashed as the reference hashes it whole. -/
theorem sum_rof (kind : Int) (hk : 1 ≤ kind ∧ kind ≤ 5) (l : List UInt8) (h : l.length ≤ 140737488352000) : (writes kind [l]).sum kind = rof kind l := by
  rw [sum_pad kind hk l (by omega)]
  have h1 := h
  have hcase : kind = 1 ∨ kind = 2 ∨ kind = 3 ∨ kind = 4 ∨ kind = 5 := by omega
  rcases hcase with rfl | rfl | rfl | rfl | rfl
  · show List.take 20 (wordsOf 1 (hsTo 1 (startW 1) (rpad 64 l) 64 ((rpad 64 l).length / 64))) = _
    unfold wordsOf rof
    rw [if_pos (by rfl), if_pos rfl, flat_map32, show (20 : Nat) = 5 * 4 from rfl, flat_take, to1 (startW 1) sha1H _ rfl start_1]
  · show List.take 28 (wordsOf 2 (hsTo 2 (startW 2) (rpad 64 l) 64 ((rpad 64 l).length / 64))) = _
    unfold wordsOf rof
    rw [if_pos (by rfl), if_neg (by decide), if_pos rfl, flat_map32, to256 2 (.inl rfl) (startW 2) sha224H _ start_2]
  · show List.take 32 (wordsOf 3 (hsTo 3 (startW 3) (rpad 64 l) 64 ((rpad 64 l).length / 64))) = _
    unfold wordsOf rof
    rw [if_pos (by rfl), if_neg (by decide), if_neg (by decide), if_pos rfl, flat_map32, to256 3 (.inr rfl) (startW 3) sha256H _ start_3]
    exact List.take_of_length_le (by rw [flat_len _ _ 4 (fun _ => rfl), rTosha256_len _ _ _ rfl]; omega)
  · show List.take 48 (wordsOf 4 (hsTo 4 (startW 4) (rpad 128 l) 128 ((rpad 128 l).length / 128))) = _
    unfold wordsOf rof
    rw [if_neg (by decide), if_neg (by decide), if_neg (by decide), if_neg (by decide), if_pos rfl, to512 4 (.inl rfl), start_4]
  · show List.take 64 (wordsOf 5 (hsTo 5 (startW 5) (rpad 128 l) 128 ((rpad 128 l).length / 128))) = _
    unfold wordsOf rof
    rw [if_neg (by decide), if_neg (by decide), if_neg (by decide), if_neg (by decide), if_neg (by decide), if_pos rfl, to512 5 (.inr rfl), start_5]
    exact List.take_of_length_le (by rw [flat_len _ _ 8 (fun _ => rfl), rTosha512_len _ _ _ rfl]; omega)
theorem writes_rof (kind : Int) (hk : 1 ≤ kind ∧ kind ≤ 5) (ps : List (List UInt8)) (h : ps.flatten.length ≤ 140737488352000) : (writes kind ps).sum kind = rof kind ps.flatten := by
  rw [writes_one kind hk, sum_rof kind hk _ h]
end Go.Proofs.YtddemlajfbagdaaDoor
namespace Go.Proofs.YtddemlajfbagdaaDoor
open Go.RowKit

theorem mem_flat_le {l : List UInt8} {ls : List (List UInt8)} (h : l ∈ ls) : l.length ≤ ls.flatten.length := (List.sublist_flatten_of_mem h).length_le
theorem kat_old {w w' : World} (h : KAt w) (hb : Below w.heap.size w w') : KAt w' := h.below hb
theorem new_made (kind : Int) (w : World) (hk : 1 ≤ kind ∧ kind ≤ 5) (hK : KAt w) :
    Calls Tryd.prog 49 #[.int .i64 kind] w fun e w' => ∃ d, e = .returned (.pointer (some ⟨d, 0, none⟩)) ∧ Made w w' d kind (HSt.start kind) (.slice none 0 0) :=
  (new_any kind w hk hK).mono fun e w' ⟨d, he, hd, hA, hb⟩ => ⟨d, he, hd, hA, fun g hg => by simp [Value.ownBlock] at hg, hb⟩
theorem Made.later {w W W' : World} {d : Nat} {kind : Int} {s : HSt} {wv : Value} (h : Made w W d kind s wv) (hb : Below W.heap.size W W') : Made w W' d kind s wv :=
  ⟨h.lt, h.at_.below hb, h.fresh, h.below.trans (hb.mono h.below.size)⟩
theorem Made.turn {w W W' : World} {S : List Nat} {d : Nat} {kind : Int} {s : HSt} {wv : Value} (h : Made w W d kind s wv) (ht : Turn S W W') (hd : d ∉ S) (hw : ∀ g, wv.ownBlock = some g → g ∉ S) (hS : ∀ t ∈ S, w.heap.size ≤ t) : Made w W' d kind s wv :=
  ⟨h.lt, h.at_.turn ht hd hw, h.fresh, below_turn h.below ht hS h.below.size⟩
/-- What a state says of blocks: they are its own. -/
theorem write_made (w W Wc : World) (d : Nat) (kind : Int) (s : HSt) (wv : Value) (A : Option Addr) (m c : Nat) (l : List UInt8) (h : Made w W d kind s wv) (ho : Old W Wc) (hr : Rd Wc A m c l) (hl : s.wait.length + l.length ≤ 140737488355328) (hK : KAt w)
    (hA : ∀ ad, A = some ad → ad.block < w.heap.size ∨ W.heap.size ≤ ad.block) :
    Calls Tryd.prog 50 #[.pointer (some ⟨d, 0, none⟩), .slice A m c] Wc fun e w' => e = .returned (.tuple #[]) ∧ ∃ wv', Made w w' d kind (s.write kind l) wv' ∧ Turn (d :: wv.ownBlock.toList) Wc w' ∧ (∀ g, wv'.ownBlock = some g → Wc.heap.size ≤ g) := by
  have h2 := h.later ho
  refine (write_any d kind s.hs s.wait s.n wv A m c l Wc h2.at_ hr hl (hK.below h2.below) (fun ad had => ?_)).mono ?_
  · have h1 := hA ad had
    have h3 := h.at_.blk.lt
    refine ⟨fun e => by have := h.lt; omega, fun e => ?_⟩
    have h4 := h.fresh _ e
    have h5 := (h.at_.own.lt e).2
    omega
  · rintro e w' ⟨he, ⟨wv', hA', hf⟩, hT⟩
    refine ⟨he, wv', ⟨h.lt, hA', fun g hg => Nat.le_trans h2.below.size (hf g hg), below_turn h2.below hT ?_ h2.below.size⟩, hT, hf⟩
    intro t ht
    rcases List.mem_cons.1 ht with rfl | ht
    · exact h.lt
    · exact h.fresh t (by simpa using ht)
theorem sum_made (w W : World) (d : Nat) (kind : Int) (s : HSt) (wv : Value) (h : Made w W d kind s wv) (hl : s.wait.length ≤ 70368744177664) (hK : KAt w) :
    Calls Tryd.prog 51 #[.pointer (some ⟨d, 0, none⟩)] W (RowRes W (s.sum kind)) :=
  (sum_any d kind s.hs s.wait s.n wv W h.at_ hl (hK.below h.below)).mono fun _ _ ⟨_, c, he, ho, hb⟩ => ⟨_, _, c, he, ho, hb⟩
theorem of_res (kind : Int) (hk : 1 ≤ kind ∧ kind ≤ 5) (A : Option Addr) (m c : Nat) (ls : List (List UInt8)) (w : World) (hp : PartsAt w A m c ls) (hl : ls.flatten.length ≤ 140737488352000) (hK : KAt w) :
    Calls Tryd.prog 34 #[.int .i64 kind, .slice A m c] w (RowRes w (rof kind ls.flatten)) :=
  (of_any kind hk A m c ls w hp (fun l hm => by have := mem_flat_le hm; omega) hK).mono fun e w' ⟨g, c, he, ho, hb⟩ => by
    rw [writes_rof kind hk ls hl] at he ho
    exact ⟨_, _, c, he, ho, hb⟩
/-- The reference's HMAC. -/
def xorAll (l : List UInt8) (x : UInt8) : List UInt8 := l.map (· ^^^ x)
def rhkey (kind : Int) (key : List UInt8) : List UInt8 := if bl kind < key.length then rof kind key else key
def rhmac (kind : Int) (key b : List UInt8) : List UInt8 :=
  rof kind (xorAll (padTo (bl kind) (rhkey kind key)) 92 ++ rof kind (xorAll (padTo (bl kind) (rhkey kind key)) 54 ++ b))
theorem hkey_r (kind : Int) (hk : 1 ≤ kind ∧ kind ≤ 5) (key : List UInt8) (h : key.length ≤ 140737488352000) : hkey kind key = rhkey kind key := by
  have hb : hblock kind = ((bl kind : Nat) : Int) := by rcases bl_cases kind hk with ⟨h1, h2⟩ | ⟨h1, h2⟩ <;> rw [h1, h2] <;> rfl
  unfold hkey rhkey
  rw [hb]
  by_cases hlt : bl kind < key.length
  · rw [if_pos (by exact_mod_cast hlt), if_pos hlt, sum_rof kind hk key h]
  · rw [if_neg (by exact_mod_cast hlt), if_neg hlt]
theorem rof_len (kind : Int) (hk : 1 ≤ kind ∧ kind ≤ 5) (l : List UInt8) (h : l.length ≤ 140737488352000) : (rof kind l).length = (hsize kind).toNat := by
  rw [← sum_rof kind hk l h]
  exact sumOf_len kind _ _ _ hk (writes_len kind _)
theorem hsize_le (kind : Int) (hk : 1 ≤ kind ∧ kind ≤ 5) : (hsize kind).toNat ≤ 64 := by
  have hcase : kind = 1 ∨ kind = 2 ∨ kind = 3 ∨ kind = 4 ∨ kind = 5 := by omega
  rcases hcase with rfl | rfl | rfl | rfl | rfl <;> decide
theorem padTo_len (B : Nat) (l : List UInt8) (h : l.length ≤ B) : (padTo B l).length = B := by unfold padTo; rw [List.length_append, zs_len]; omega
theorem hmac_r (kind : Int) (hk : 1 ≤ kind ∧ kind ≤ 5) (key : List UInt8) (ls : List (List UInt8)) (h : key.length ≤ 140737488352000) (h2 : ls.flatten.length ≤ 140737488351500) : hmac kind key ls = rhmac kind key ls.flatten := by
  have hl : (hkey kind key).length ≤ bl kind := hkey_len kind key hk
  have hp := padTo_len _ _ hl
  have hb : bl kind ≤ 128 := by rcases bl_cases kind hk with ⟨_, h⟩ | ⟨_, h⟩ <;> omega
  unfold hmac mac rhmac
  rw [← hkey_r kind hk key h]
  generalize padTo (bl kind) (hkey kind key) = pd at *
  have e1 : (writes kind (pd.map (· ^^^ 54) :: ls)).sum kind = rof kind (xorAll pd 54 ++ ls.flatten) := by
    rw [writes_rof kind hk _ (by rw [List.flatten_cons, List.length_append, List.length_map]; omega)]; rfl
  rw [e1]
  have hr := rof_len kind hk (xorAll pd 54 ++ ls.flatten) (by rw [List.length_append]; unfold xorAll; rw [List.length_map]; omega)
  have hs := hsize_le kind hk
  rw [writes_rof kind hk _ (by simp [hr]; omega)]
  simp [xorAll]
theorem rof_out (kind : Int) (hk : ¬ (1 ≤ kind ∧ kind ≤ 5)) (l : List UInt8) : rof kind l = [] := by
  unfold rof
  rw [if_neg (by omega), if_neg (by omega), if_neg (by omega), if_neg (by omega), if_neg (by omega)]
theorem of_res_all (kind : Int) (A : Option Addr) (m c : Nat) (ls : List (List UInt8)) (w : World) (hp : PartsAt w A m c ls) (hl : ls.flatten.length ≤ 140737488352000) (hK : KAt w) :
    Calls Tryd.prog 34 #[.int .i64 kind, .slice A m c] w (RowRes w (rof kind ls.flatten)) := by
  by_cases hk : 1 ≤ kind ∧ kind ≤ 5
  · exact of_res kind hk A m c ls w hp hl hK
  · refine (of_none kind (by omega) A m c ls w hp).mono ?_
    rintro e w' ⟨rfl, hb⟩
    rw [rof_out kind hk]
    exact ⟨none, 0, 0, rfl, Own.nil _ _, hb⟩
theorem rof_res_all (kind : Int) (A : Option Addr) (m c : Nat) (l : List UInt8) (w : World) (hr : Rd w A m c l) (hl : l.length ≤ 140737488352000) :
    Calls Tryd.prog 36 #[.int .i64 kind, .slice A m c] w (RowRes w (rof kind l)) := by
  by_cases hk : 1 ≤ kind ∧ kind ≤ 5
  · exact rof_any kind hk A m c l w hr hl
  · refine (rof_none kind (by omega) _ w).mono ?_
    rintro e w' ⟨rfl, rfl⟩
    rw [rof_out kind hk]
    exact ⟨none, 0, 0, rfl, Own.nil _ _, Below.refl _ _⟩
theorem rd_two {w : World} {g : Nat} {A A' : Option Addr} {m c m' c' : Nat} {l l' : List UInt8} {t : TypeId} (hb : Blk w g t #[.slice A m c, .slice A' m' c']) (hr : Rd w A m c l) (hr' : Rd w A' m' c' l') : PartsAt w (some ⟨g, 0, none⟩) 2 2 [l, l'] := by
  refine ⟨rfl, Nat.le_refl _, by unfold maxLen; omega, fun _ => ⟨g, 0, rfl, hb.lt, fun i l'' hl => ?_⟩⟩
  match i, hl with
  | 0, hl => cases hl; exact ⟨A, m, c, hb.cell 0, hr⟩
  | 1, hl => cases hl; exact ⟨A', m', c', hb.cell 1, hr'⟩
end Go.Proofs.YtddemlajfbagdaaDoor
