/-
  Contract of hashes.newKeyed: a key's two states.
-/
import Derived.Test.YtomngfihaohgdaaDoorOf
import Derived.Test.YtomngfihaohgdaaDoorApp2
import Derived.Deep.DeepCutAuto
namespace Go.Proofs.YtomngfihaohgdaaDoor
open Go.RowKit

/-- The key, or its hash. -/
def hkey (kind : Int) (key : List UInt8) : List UInt8 := if hblock kind < key.length then (writes kind [key]).sum kind else key
def padTo (B : Nat) (l : List UInt8) : List UInt8 := l ++ zs (B - l.length)
theorem sumOf_len (kind : Int) (hs : List UInt64) (wait : List UInt8) (n : UInt64) (hk : 1 ≤ kind ∧ kind ≤ 5) (h : hs.length = 8) : (sumOf kind hs wait n).length = (hsize kind).toNat := by
  unfold sumOf
  have h8 : (absorb kind hs (wait ++ padB (bl kind) wait.length n)).length = 8 := hsTo_len _ _ _ _ _ h
  generalize absorb kind hs (wait ++ padB (bl kind) wait.length n) = sl at *
  have hw : (wordsOf kind sl).length = if bl kind = 64 then 32 else 64 := by
    unfold wordsOf
    split
    · rw [flat_len _ _ 4 (fun _ => rfl), h8]
    · rw [flat_len _ _ 8 (fun _ => rfl), h8]
  rw [List.length_take, hw]
  have hcase : kind = 1 ∨ kind = 2 ∨ kind = 3 ∨ kind = 4 ∨ kind = 5 := by omega
  rcases hcase with rfl | rfl | rfl | rfl | rfl <;> simp [hsize, bl, hblock]
theorem writes_len (kind : Int) (ps : List (List UInt8)) : (writes kind ps).hs.length = 8 := by
  have key : ∀ (ps : List (List UInt8)) (s : HSt), s.hs.length = 8 → (ps.foldl (HSt.write kind) s).hs.length = 8 := by
    intro ps
    induction ps with
    | nil => intro s h; exact h
    | cons p ps ih => intro s h; exact ih _ (hsTo_len _ _ _ _ _ h)
  exact key ps _ (startW_len kind)
theorem hkey_len (kind : Int) (key : List UInt8) (hk : 1 ≤ kind ∧ kind ≤ 5) : (hkey kind key).length ≤ bl kind := by
  unfold hkey
  split
  · unfold HSt.sum
    rw [sumOf_len kind _ _ _ hk (writes_len kind _)]
    have hcase : kind = 1 ∨ kind = 2 ∨ kind = 3 ∨ kind = 4 ∨ kind = 5 := by omega
    rcases hcase with rfl | rfl | rfl | rfl | rfl <;> simp [hsize, bl, hblock]
  · unfold bl; omega

theorem rd_one {w : World} {g : Nat} {A : Option Addr} {m c : Nat} {l : List UInt8} {t : TypeId} (hb : Blk w g t #[.slice A m c]) (hr : Rd w A m c l) : PartsAt w (some ⟨g, 0, none⟩) 1 1 [l] := by
  refine ⟨rfl, Nat.le_refl _, by unfold maxLen; omega, fun _ => ⟨g, 0, rfl, hb.lt, fun i l' hl => ?_⟩⟩
  cases i with
  | zero => cases hl; exact ⟨A, m, c, hb.cell 0, hr⟩
  | succ i => cases hl

theorem turn_some {w w' : World} {g : Nat} (h : w.grownBy w' (some g)) : Turn [g] w w' :=
  ⟨h.os, h.tape, h.output, h.size, fun k hk hn => h.block k hk (fun e => hn (by cases e; simp))⟩
/-- Two new rows of zeros. -/
theorem two_zeros (w : World) (n : Nat) (hn : n ≤ maxLen) :
    Own ((w.alloc (.cells (madeCells #[.int .u8 0] n) 5)).alloc (.cells (madeCells #[.int .u8 0] n) 5)) w.heap.size (.slice (some ⟨w.heap.size, 0, none⟩) n n) (zs n) ∧
    Own ((w.alloc (.cells (madeCells #[.int .u8 0] n) 5)).alloc (.cells (madeCells #[.int .u8 0] n) 5)) w.heap.size (.slice (some ⟨w.heap.size + 1, 0, none⟩) n n) (zs n) ∧
    Below w.heap.size w ((w.alloc (.cells (madeCells #[.int .u8 0] n) 5)).alloc (.cells (madeCells #[.int .u8 0] n) 5)) := by
  refine ⟨(Own.made w n hn).below ((Below.refl _ _).alloc (Nat.le_refl _) _), ?_, ((Below.refl _ _).alloc (Nat.le_refl _) _).alloc (by simp) _⟩
  have := (Own.made (w.alloc (.cells (madeCells #[.int .u8 0] n) 5)) n hn).mono (base' := w.heap.size) (by simp)
  simpa using this
/-- A key's two states in memory, all of it made behind base. -/
structure KeyAt (base : Nat) (w : World) (d1 d2 : Nat) (wv1 wv2 : Value) (kind : Int) (pd : List UInt8) : Prop where
  one : HashAt w d1 kind (writes kind [pd.map (· ^^^ 54)]).hs (writes kind [pd.map (· ^^^ 54)]).wait (writes kind [pd.map (· ^^^ 54)]).n wv1
  two : HashAt w d2 kind (writes kind [pd.map (· ^^^ 92)]).hs (writes kind [pd.map (· ^^^ 92)]).wait (writes kind [pd.map (· ^^^ 92)]).n wv2
  b1 : base ≤ d1
  b2 : base ≤ d2
  f1 : ∀ g, wv1.ownBlock = some g → base ≤ g
  f2 : ∀ g, wv2.ownBlock = some g → base ≤ g
end Go.Proofs.YtomngfihaohgdaaDoor
