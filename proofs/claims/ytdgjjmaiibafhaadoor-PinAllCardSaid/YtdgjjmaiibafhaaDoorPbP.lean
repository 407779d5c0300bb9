/-
  The key from a password, plain: what PBKDF2 computes on both sides.
-/
import Derived.Test.YtdgjjmaiibafhaaDoorRHmac
import Derived.Test.YtdgjjmaiibafhaaDoorMgf
import Derived.StillTailTactics
namespace Go.Proofs.YtdgjjmaiibafhaaDoor
open Go.RowKit

def uS (kind : Int) (pin b : List UInt8) : Nat → List UInt8
  | 0 => rhmac kind pin b
  | r + 1 => rhmac kind pin (uS kind pin b r)
def xorL (a b : List UInt8) : List UInt8 := List.zipWith (· ^^^ ·) a b
def tS (kind : Int) (pin b : List UInt8) : Nat → List UInt8
  | 0 => uS kind pin b 0
  | r + 1 => xorL (tS kind pin b r) (uS kind pin b (r + 1))
/-- The first k pieces of the key. -/
def pbk (kind : Int) (pin salt : List UInt8) (R : Nat) : Nat → List UInt8
  | 0 => []
  | k + 1 => pbk kind pin salt R k ++ tS kind pin (salt ++ num4 ((k : Int) + 1)) (R - 1)
section
variable (kind : Int) (hk : 1 ≤ kind ∧ kind ≤ 5) (pin b : List UInt8) (hp : pin.length ≤ 1000)
include hk hp
theorem rhmac_len (hb : b.length ≤ 2000) : (rhmac kind pin b).length = (hsize kind).toNat := by
  have h0 := rhkey_len kind pin hk (by omega)
  have h1 := padTo_len _ _ h0
  have h2 : bl kind ≤ 128 := by rcases bl_cases kind hk with ⟨_, h⟩ | ⟨_, h⟩ <;> omega
  have h3 := hsize_le kind hk
  unfold rhmac
  have h4 := rof_len kind hk (xorAll (padTo (bl kind) (rhkey kind pin)) 54 ++ b) (by rw [List.length_append, xorAll_len, h1]; omega)
  exact rof_len kind hk _ (by rw [List.length_append, xorAll_len, h1, h4]; omega)
theorem uS_len (hb : b.length ≤ 2000) (r : Nat) : (uS kind pin b r).length = (hsize kind).toNat := by
  cases r with
  | zero => exact rhmac_len kind hk pin b hp hb
  | succ r =>
    have : (uS kind pin b r).length ≤ 2000 := by
      induction r with
      | zero => have := rhmac_len kind hk pin b hp hb; have := hsize_le kind hk; show (rhmac kind pin b).length ≤ 2000; omega
      | succ r ih => have := rhmac_len kind hk pin (uS kind pin b r) hp ih; have := hsize_le kind hk; show (rhmac kind pin _).length ≤ 2000; omega
    exact rhmac_len kind hk pin _ hp this
theorem tS_len (hb : b.length ≤ 2000) (r : Nat) : (tS kind pin b r).length = (hsize kind).toNat := by
  induction r with
  | zero => exact uS_len kind hk pin b hp hb 0
  | succ r ih => unfold tS xorL; rw [List.length_zipWith, ih, uS_len kind hk pin b hp hb (r + 1), Nat.min_self]
theorem pbk_len (hb : b.length ≤ 1000) (R k : Nat) : (pbk kind pin b R k).length = k * (hsize kind).toNat := by
  induction k with
  | zero => simp [pbk]
  | succ k ih => rw [pbk, List.length_append, ih, tS_len kind hk pin _ hp (by rw [List.length_append, num4_len]; omega), Nat.add_mul]; omega
end
theorem pbk_more (kind : Int) (pin salt : List UInt8) (R k j : Nat) : ∃ r, pbk kind pin salt R (k + j) = pbk kind pin salt R k ++ r := by
  induction j with
  | zero => exact ⟨[], by simp⟩
  | succ j ih =>
    obtain ⟨r, hr⟩ := ih
    exact ⟨r ++ tS kind pin (salt ++ num4 (((k + j : Nat) : Int) + 1)) (R - 1), by rw [← Nat.add_assoc, pbk, hr, List.append_assoc]⟩
/-- The key of n bytes. -/
def pkey (kind : Int) (pin salt : List UInt8) (R n : Nat) : List UInt8 := (pbk kind pin salt R n).take n
theorem pkey_of (kind : Int) (pin salt : List UInt8) (R n k : Nat) (hk : k ≤ n) (hn : n ≤ (pbk kind pin salt R k).length) : pkey kind pin salt R n = (pbk kind pin salt R k).take n := by
  obtain ⟨r, hr⟩ := pbk_more kind pin salt R k (n - k)
  unfold pkey
  rw [show n = k + (n - k) from by omega, hr, List.take_append_of_le_length (by omega)]
theorem KeyAt.below {base : Nat} {w w' : World} {d1 d2 : Nat} {wv1 wv2 : Value} {kind : Int} {pd : List UInt8} (h : KeyAt base w d1 d2 wv1 wv2 kind pd) (hb : Below w.heap.size w w') : KeyAt base w' d1 d2 wv1 wv2 kind pd :=
  ⟨h.one.below hb, h.two.below hb, h.b1, h.b2, h.f1, h.f2⟩
theorem keyOf_res (base : Nat) (d1 d2 : Nat) (wv1 wv2 : Value) (kind : Int) (hk : 1 ≤ kind ∧ kind ≤ 5) (key : List UInt8) (A : Option Addr) (m c : Nat) (ls : List (List UInt8)) (w : World) (h : KeyAt base w d1 d2 wv1 wv2 kind (padTo (bl kind) (hkey kind key)))
    (hlk : key.length ≤ 140737488352000) (hp : PartsAt w A m c ls) (hl : ls.flatten.length ≤ 140737488351500) (hK : KAt w) :
    Calls Tryd.prog 46 #[.agg #[.pointer (some ⟨d1, 0, none⟩), .pointer (some ⟨d2, 0, none⟩)], .slice A m c] w (RowRes w (rhmac kind key ls.flatten)) :=
  (keyOf_any base d1 d2 wv1 wv2 kind _ A m c ls w h hp (fun l hm => by have := mem_flat_le hm; omega) hK).mono fun _ _ ⟨_, c, he, ho, hb⟩ => by
    have e : mac kind (padTo (bl kind) (hkey kind key)) ls = rhmac kind key ls.flatten := hmac_r kind hk key ls hlk hl
    rw [e] at he ho
    exact ⟨_, _, c, he, ho, hb⟩
end Go.Proofs.YtdgjjmaiibafhaaDoor
