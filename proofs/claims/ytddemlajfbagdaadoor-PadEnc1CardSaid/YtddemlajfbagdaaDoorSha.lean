/-
  What the hash functions compute, on lists. Plain: no program.
-/
import Derived.Test.YtddemlajfbagdaaDoorZzRot
namespace Go.Proofs.YtddemlajfbagdaaDoor

/-! ### the message's schedule -/
def next256 (l : List UInt32) (k : Nat) : UInt32 :=
  l.getD (k - 16) 0 + (rotl32 (l.getD (k - 15) 0) 25 ^^^ rotl32 (l.getD (k - 15) 0) 14 ^^^ (l.getD (k - 15) 0) >>> 3) + l.getD (k - 7) 0 + (rotl32 (l.getD (k - 2) 0) 15 ^^^ rotl32 (l.getD (k - 2) 0) 13 ^^^ (l.getD (k - 2) 0) >>> 10)
def next1 (l : List UInt32) (k : Nat) : UInt32 := rotl32 (l.getD (k - 3) 0 ^^^ l.getD (k - 8) 0 ^^^ l.getD (k - 14) 0 ^^^ l.getD (k - 16) 0) 1
def next512 (l : List UInt64) (k : Nat) : UInt64 :=
  l.getD (k - 16) 0 + (rotl64 (l.getD (k - 15) 0) 63 ^^^ rotl64 (l.getD (k - 15) 0) 56 ^^^ (l.getD (k - 15) 0) >>> 7) + l.getD (k - 7) 0 + (rotl64 (l.getD (k - 2) 0) 45 ^^^ rotl64 (l.getD (k - 2) 0) 3 ^^^ (l.getD (k - 2) 0) >>> 6)
/-- The first n words, by 'first' and 'next'. -/
def schedTo {α : Type} (first : Nat → α) (next : List α → Nat → α) : Nat → List α
  | 0 => []
  | n + 1 => schedTo first next n ++ [if n < 16 then first n else next (schedTo first next n) n]
theorem schedTo_len {α : Type} (first : Nat → α) (next : List α → Nat → α) (n : Nat) : (schedTo first next n).length = n := by
  induction n with
  | zero => rfl
  | succ n ih => simp [schedTo, ih]
def sched256 (p : List UInt8) (n : Nat) : List UInt32 := schedTo (fun k => word32 p (4 * k)) next256 n
def sched1 (p : List UInt8) (n : Nat) : List UInt32 := schedTo (fun k => word32 p (4 * k)) next1 n
def sched512 (p : List UInt8) (n : Nat) : List UInt64 := schedTo (fun k => word64 p (8 * k)) next512 n

/-! ### the rounds -/
structure V8 (α : Type) where
  (a b c d e f g h : α)
def V8.list {α : Type} (v : V8 α) : List α := [v.a, v.b, v.c, v.d, v.e, v.f, v.g, v.h]
def V8.of {α : Type} [OfNat α 0] (l : List α) : V8 α := ⟨l.getD 0 0, l.getD 1 0, l.getD 2 0, l.getD 3 0, l.getD 4 0, l.getD 5 0, l.getD 6 0, l.getD 7 0⟩
def t256 (v : V8 UInt32) (k x : UInt32) : UInt32 := v.h + (rotl32 v.e 26 ^^^ rotl32 v.e 21 ^^^ rotl32 v.e 7) + (v.e &&& v.f ^^^ ~~~v.e &&& v.g) + k + x
def u256 (v : V8 UInt32) : UInt32 := (rotl32 v.a 30 ^^^ rotl32 v.a 19 ^^^ rotl32 v.a 10) + (v.a &&& v.b ^^^ v.a &&& v.c ^^^ v.b &&& v.c)
def step256 (v : V8 UInt32) (k x : UInt32) : V8 UInt32 := ⟨t256 v k x + u256 v, v.a, v.b, v.c, v.d + t256 v k x, v.e, v.f, v.g⟩
def t512 (v : V8 UInt64) (k x : UInt64) : UInt64 := v.h + (rotl64 v.e 50 ^^^ rotl64 v.e 46 ^^^ rotl64 v.e 23) + (v.e &&& v.f ^^^ ~~~v.e &&& v.g) + k + x
def u512 (v : V8 UInt64) : UInt64 := (rotl64 v.a 36 ^^^ rotl64 v.a 30 ^^^ rotl64 v.a 25) + (v.a &&& v.b ^^^ v.a &&& v.c ^^^ v.b &&& v.c)
def step512 (v : V8 UInt64) (k x : UInt64) : V8 UInt64 := ⟨t512 v k x + u512 v, v.a, v.b, v.c, v.d + t512 v k x, v.e, v.f, v.g⟩
structure V5 where
  (a b c d e : UInt32)
def f1 (i : Nat) (v : V5) : UInt32 := if i / 20 = 0 then v.b &&& v.c ||| ~~~v.b &&& v.d else if i / 20 = 2 then v.b &&& v.c ||| v.b &&& v.d ||| v.c &&& v.d else v.b ^^^ v.c ^^^ v.d
def g1 (i : Nat) : UInt32 := if i / 20 = 0 then 0x5a827999 else if i / 20 = 1 then 0x6ed9eba1 else if i / 20 = 2 then 0x8f1bbcdc else 0xca62c1d6
def step1 (i : Nat) (v : V5) (x : UInt32) : V5 := ⟨rotl32 v.a 5 + f1 i v + v.e + g1 i + x, v.a, rotl32 v.b 30, v.c, v.d⟩
def run256 (ks ws : List UInt32) (v : V8 UInt32) : Nat → V8 UInt32
  | 0 => v
  | n + 1 => step256 (run256 ks ws v n) (ks.getD n 0) (ws.getD n 0)
def run512 (ks ws : List UInt64) (v : V8 UInt64) : Nat → V8 UInt64
  | 0 => v
  | n + 1 => step512 (run512 ks ws v n) (ks.getD n 0) (ws.getD n 0)
def run1 (ws : List UInt32) (v : V5) : Nat → V5
  | 0 => v
  | n + 1 => step1 n (run1 ws v n) (ws.getD n 0)

/-! ### the constants -/
def kTab : List UInt64 := [0x428a2f98d728ae22, 0x7137449123ef65cd, 0xb5c0fbcfec4d3b2f, 0xe9b5dba58189dbbc, 0x3956c25bf348b538, 0x59f111f1b605d019, 0x923f82a4af194f9b, 0xab1c5ed5da6d8118, 0xd807aa98a3030242, 0x12835b0145706fbe, 0x243185be4ee4b28c, 0x550c7dc3d5ffb4e2, 0x72be5d74f27b896f, 0x80deb1fe3b1696b1, 0x9bdc06a725c71235, 0xc19bf174cf692694, 0xe49b69c19ef14ad2, 0xefbe4786384f25e3, 0x0fc19dc68b8cd5b5, 0x240ca1cc77ac9c65, 0x2de92c6f592b0275, 0x4a7484aa6ea6e483, 0x5cb0a9dcbd41fbd4, 0x76f988da831153b5, 0x983e5152ee66dfab, 0xa831c66d2db43210, 0xb00327c898fb213f, 0xbf597fc7beef0ee4, 0xc6e00bf33da88fc2, 0xd5a79147930aa725, 0x06ca6351e003826f, 0x142929670a0e6e70, 0x27b70a8546d22ffc, 0x2e1b21385c26c926, 0x4d2c6dfc5ac42aed, 0x53380d139d95b3df, 0x650a73548baf63de, 0x766a0abb3c77b2a8, 0x81c2c92e47edaee6, 0x92722c851482353b, 0xa2bfe8a14cf10364, 0xa81a664bbc423001, 0xc24b8b70d0f89791, 0xc76c51a30654be30, 0xd192e819d6ef5218, 0xd69906245565a910, 0xf40e35855771202a, 0x106aa07032bbd1b8, 0x19a4c116b8d2d0c8, 0x1e376c085141ab53, 0x2748774cdf8eeb99, 0x34b0bcb5e19b48a8, 0x391c0cb3c5c95a63, 0x4ed8aa4ae3418acb, 0x5b9cca4f7763e373, 0x682e6ff3d6b2b8a3, 0x748f82ee5defb2fc, 0x78a5636f43172f60, 0x84c87814a1f0ab72, 0x8cc702081a6439ec, 0x90befffa23631e28, 0xa4506cebde82bde9, 0xbef9a3f7b2c67915, 0xc67178f2e372532b, 0xca273eceea26619c, 0xd186b8c721c0c207, 0xeada7dd6cde0eb1e, 0xf57d4f7fee6ed178, 0x06f067aa72176fba, 0x0a637dc5a2c898a6, 0x113f9804bef90dae, 0x1b710b35131c471b, 0x28db77f523047d84, 0x32caab7b40c72493, 0x3c9ebe0a15c9bebc, 0x431d67c49c100d4c, 0x4cc5d4becb3e42b6, 0x597f299cfc657e2a, 0x5fcb6fab3ad6faec, 0x6c44198c4a475817]
def kTab32 : List UInt32 := kTab.map fun (x : UInt64) => (x >>> 32).toUInt32
theorem kTab_len : kTab.length = 80 := rfl
theorem kTab32_get (k : Nat) (h : k < 80) : kTab32.getD k 0 = (kTab.getD k 0 >>> 32).toUInt32 := by
  simp [kTab32, List.getD, show k < kTab.length from h]

/-! ### a block is taken in: on the program's state of eight words of 64 bits -/
def out256 (hs : List UInt64) (p : List UInt8) : List UInt32 := (run256 kTab32 (sched256 p 64) (V8.of (hs.map UInt64.toUInt32)) 64).list
def take256 (hs : List UInt64) (p : List UInt8) : List UInt64 := List.zipWith (fun h x => (h.toUInt32 + x).toUInt64) hs (out256 hs p)
def out512 (hs : List UInt64) (p : List UInt8) : List UInt64 := (run512 kTab (sched512 p 80) (V8.of hs) 80).list
def take512 (hs : List UInt64) (p : List UInt8) : List UInt64 := List.zipWith (fun h x => h + x) hs (out512 hs p)
def v5 (hs : List UInt64) : V5 := ⟨(hs.getD 0 0).toUInt32, (hs.getD 1 0).toUInt32, (hs.getD 2 0).toUInt32, (hs.getD 3 0).toUInt32, (hs.getD 4 0).toUInt32⟩
def V5.list (v : V5) : List UInt32 := [v.a, v.b, v.c, v.d, v.e]
def out1 (hs : List UInt64) (p : List UInt8) : List UInt32 := (run1 (sched1 p 80) (v5 hs) 80).list
def take1 (hs : List UInt64) (p : List UInt8) : List UInt64 := List.zipWith (fun h x => (h.toUInt32 + x).toUInt64) hs (out1 hs p) ++ hs.drop 5
theorem V5.list_len (v : V5) : v.list.length = 5 := rfl
theorem V8.list_len {α : Type} (v : V8 α) : v.list.length = 8 := rfl
theorem out1_len (hs : List UInt64) (p : List UInt8) : (out1 hs p).length = 5 := V5.list_len _
theorem take1_len (hs : List UInt64) (p : List UInt8) (h : hs.length = 8) : (take1 hs p).length = 8 := by
  unfold take1
  have := out1_len hs p
  generalize out1 hs p = o at *
  simp [h, this]
theorem take1_get (hs : List UInt64) (p : List UInt8) (k : Nat) (x : UInt64) (y : UInt32) (h : hs.length = 8) (hk : k < 5) (hx : hs[k]? = some x) (hy : (out1 hs p)[k]? = some y) : (take1 hs p)[k]? = some (x.toUInt32 + y).toUInt64 := by
  unfold take1
  have := out1_len hs p
  generalize out1 hs p = o at *
  rw [List.getElem?_append_left (by simp [h, this]; omega), List.getElem?_zipWith, hx, hy]
theorem take1_ge (hs : List UInt64) (p : List UInt8) (k : Nat) (h : hs.length = 8) (hk : 5 ≤ k) : (take1 hs p)[k]? = hs[k]? := by
  unfold take1
  have := out1_len hs p
  generalize out1 hs p = o at *
  have e5 : (List.zipWith (fun (h : UInt64) (x : UInt32) => (h.toUInt32 + x).toUInt64) hs o).length = 5 := by simp [h, this]
  rw [List.getElem?_append_right (by omega), e5, List.getElem?_drop]
  congr 1; omega
/-- The first k words are the new ones. -/
def mixTo {α : Type} (new old : List α) (k : Nat) : List α := new.take k ++ old.drop k
theorem mixTo_set {α : Type} (new old : List α) (k : Nat) (x : α) (h : new[k]? = some x) (hk : k < old.length) : (mixTo new old k).set k x = mixTo new old (k + 1) := by
  have hn := (List.getElem?_eq_some_iff.1 h)
  obtain ⟨hlt, rfl⟩ := hn
  unfold mixTo
  rw [List.set_append_right _ _ (by simp; omega)]
  have e1 : (new.take k).length = k := by simp; omega
  rw [e1, Nat.sub_self, List.drop_eq_getElem_cons hk, List.set_cons_zero, List.take_succ_eq_append_getElem hlt, List.append_assoc]
  rfl
theorem mixTo_len {α : Type} (new old : List α) (k : Nat) (h : k ≤ new.length) (h2 : new.length ≤ old.length) : (mixTo new old k).length = old.length := by
  simp [mixTo]; omega
theorem mixTo_get {α : Type} (new old : List α) (k : Nat) (h : k ≤ new.length) : (mixTo new old k)[k]? = old[k]? := by
  unfold mixTo
  rw [List.getElem?_append_right (by simp; omega)]
  have e1 : (new.take k).length = k := by simp; omega
  rw [e1, Nat.sub_self, List.getElem?_drop, Nat.add_zero]
end Go.Proofs.YtddemlajfbagdaaDoor
