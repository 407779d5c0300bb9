/-
  Logs, plainly: lines, chains of lines, what is right in a log. H: a line's hash of what lies ahead of it.
-/
import Derived.Test.YtpccmcpeijmekaaDoorRh2
namespace Go.Proofs.YtpccmcpeijmekaaDoor

structure Ent where
  seq : Nat
  time : Nat
  fn : Nat
  rv : Nat
  slot : Nat
structure Ent.ok (e : Ent) : Prop where
  time : e.time < 9223372036854775808
  fn : e.fn < 65536
  rv : e.rv < 4294967296
  slot : e.slot < 65536
/-- The 20 bytes ahead of a line's hash. -/
def hb (seq : Nat) (e : Ent) : List UInt8 := beTail seq 4 ++ beTail e.time 8 ++ beTail e.fn 2 ++ beTail e.rv 4 ++ beTail e.slot 2
theorem hb_len (seq : Nat) (e : Ent) : (hb seq e).length = 20 := by simp [hb, beTail_len]
/-- The last whole line's hash. -/
def lastHash (l : List UInt8) : List UInt8 := if l.length / 52 = 0 then zs 32 else (l.drop (l.length / 52 * 52 - 32)).take 32
theorem lastHash_len (l : List UInt8) : (lastHash l).length = 32 := by
  unfold lastHash
  split
  · exact zs_len 32
  · rw [List.length_take, List.length_drop]
    have := Nat.div_mul_le_self l.length 52
    have : 1 ≤ l.length / 52 := by omega
    omega
section
variable (H : List UInt8 → List UInt8)
def aline (ahead : List UInt8) (seq : Nat) (e : Ent) : List UInt8 := hb seq e ++ H (ahead ++ hb seq e)
/-- The i-th line. -/
def lnAt (log : List UInt8) (i : Nat) : List UInt8 := (log.drop (52 * i)).take 52
/-- A log with one line more. -/
def addLine (log : List UInt8) (e : Ent) : List UInt8 := log ++ aline H (lastHash log) (log.length / 52) e
def chainOf (es : List Ent) : List UInt8 := es.foldl (addLine H) []
end
section
variable {H : List UInt8 → List UInt8} (hH : ∀ l, l.length ≤ 1000 → (H l).length = 32)
include hH
theorem aline_len (ahead : List UInt8) (seq : Nat) (e : Ent) (ha : ahead.length ≤ 900) : (aline H ahead seq e).length = 52 := by
  unfold aline
  rw [List.length_append, hb_len, hH _ (by rw [List.length_append, hb_len]; omega)]
theorem addLine_len (log : List UInt8) (e : Ent) : (addLine H log e).length = log.length + 52 := by
  unfold addLine
  rw [List.length_append, aline_len hH _ _ _ (by rw [lastHash_len]; omega)]
theorem chainOf_len_n (n : Nat) : ∀ es : List Ent, es.length = n → (chainOf H es).length = 52 * n := by
  induction n with
  | zero => intro es h; obtain rfl := List.length_eq_zero_iff.1 h; rfl
  | succ n ih =>
    intro es h
    rcases List.eq_nil_or_concat es with rfl | ⟨q, p, rfl⟩
    · simp at h
    · rw [List.concat_eq_append] at h ⊢
      have ih := ih q (by simpa using h)
      unfold chainOf at ih ⊢
      rw [List.foldl_append]
      simp only [List.foldl_cons, List.foldl_nil]
      rw [addLine_len hH, ih]
      omega
theorem chainOf_len (es : List Ent) : (chainOf H es).length = 52 * es.length := chainOf_len_n hH _ es rfl
theorem chainOf_snoc (q : List Ent) (p : Ent) : chainOf H (q ++ [p]) = chainOf H q ++ aline H (lastHash (chainOf H q)) q.length p := by
  have h := chainOf_len hH q
  have e : chainOf H (q ++ [p]) = addLine H (chainOf H q) p := by
    unfold chainOf
    rw [List.foldl_append]
    rfl
  rw [e]
  unfold addLine
  rw [h]
  congr 2
  omega
/-- The front of a chain. -/
theorem chainOf_take_n (n : Nat) : ∀ es : List Ent, es.length = n → ∀ i, i ≤ n → (chainOf H es).take (52 * i) = chainOf H (es.take i) := by
  induction n with
  | zero => intro es h i hi; obtain rfl := List.length_eq_zero_iff.1 h; obtain rfl : i = 0 := by omega
            rfl
  | succ n ih =>
    intro es h i hi
    rcases List.eq_nil_or_concat es with rfl | ⟨q, p, rfl⟩
    · simp at h
    · rw [List.concat_eq_append] at h ⊢
      have hq : q.length = n := by simpa using h
      rcases Nat.lt_or_ge n i with h2 | h2
      · obtain rfl : i = (q ++ [p]).length := by omega
        rw [List.take_length, List.take_of_length_le (by rw [chainOf_len hH]; exact Nat.le_refl _)]
      · rw [chainOf_snoc hH, List.take_append_of_le_length (by rw [chainOf_len hH]; omega), ih q hq i h2, List.take_append_of_le_length (by omega)]
theorem chainOf_take (es : List Ent) (i : Nat) (hi : i ≤ es.length) : (chainOf H es).take (52 * i) = chainOf H (es.take i) := chainOf_take_n hH _ es rfl i hi
theorem chainOf_line (es : List Ent) (i : Nat) (e : Ent) (he : es[i]? = some e) : lnAt (chainOf H es) i = aline H (lastHash (chainOf H (es.take i))) i e := by
  have hi := (List.getElem?_eq_some_iff.1 he).1
  have h1 := chainOf_take hH es (i + 1) hi
  rw [List.take_add_one, he] at h1
  simp only [Option.toList_some] at h1
  rw [chainOf_snoc hH] at h1
  unfold lnAt
  have h2 : ((chainOf H es).drop (52 * i)).take 52 = ((chainOf H es).take (52 * (i + 1))).drop (52 * i) := by
    rw [List.drop_take]; congr 1; omega
  rw [h2, h1]
  have h3 := chainOf_len hH (es.take i)
  rw [List.length_take, Nat.min_eq_left (by omega)] at h3
  rw [← h3, List.drop_left]
  rw [List.length_take, Nat.min_eq_left (by omega)]
end
end Go.Proofs.YtpccmcpeijmekaaDoor
