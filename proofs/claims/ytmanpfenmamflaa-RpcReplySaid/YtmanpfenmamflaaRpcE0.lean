/-
  What is too long, plainly.
-/
import Derived.Test.YtmanpfenmamflaaRpc6
namespace Go.Proofs.Ytmanpfenmamflaa
open Go.RowKit

theorem pnum_no {n : Int} {size : Nat} {most : Int} (h : most < n) : pnum n size most = none := if_pos (.inr h)
theorem pnum_ok {n : Int} {size : Nat} {most : Int} (h : ¬ (n < 0 ∨ most < n)) : pnum n size most = some (num n.toNat size) := if_neg h
theorem pbytes_no {x : List UInt8} {size : Nat} {most : Int} (h : most < x.length) : pbytes x size most = none := by unfold pbytes; rw [pnum_no h, ocat_none]
theorem pbytes_ok {x : List UInt8} {size : Nat} {most : Int} (h : (x.length : Int) ≤ most) : pbytes x size most = some (num x.length size ++ x) := by
  unfold pbytes; rw [pnum_ok (by omega), ocat_some]; rfl
/-- A call of data alone. -/
def cData (x : List UInt8) : PCall := ⟨0, 0, 0, 0, 0, 0, [], x, [], [], []⟩
def cMore (x : List UInt8) : PCall := ⟨0, 0, 0, 0, 0, 0, [], [], x, [], []⟩
def cT1 (l : List (Int × List UInt8)) : PCall := ⟨0, 0, 0, 0, 0, 0, [], [], [], l, []⟩
def rList (l : List Int) : PRep := ⟨0, 0, 0, [], l, []⟩
def rAttrs (l : List (Int × List UInt8)) : PRep := ⟨0, 0, 0, [], [], l⟩
theorem bigA (x : List UInt8) (h : x.length = 65537) : frameO (callO (cData x)) = none := by
  have : callO (cData x) = none := by
    unfold callO cData
    rw [pbytes_no (x := x) (by omega), ocat_none2, ocat_none, ocat_none, ocat_none]
  rw [this]; rfl
theorem front_ok : ocat (ocat (pnum 0 1 255) (pcat ([0, 0, 0, 0, 0].map p4))) (pbytes [] 2 65535) = some (List.replicate 23 0) := by decide +kernel
theorem bigB (x : List UInt8) (h : x.length = 65536) : ∃ y, frameO (callO (cData x)) = some y := by
  have : callO (cData x) = some (List.replicate 23 0 ++ (num x.length 4 ++ x) ++ [0, 0] ++ [0] ++ [0]) := by
    unfold callO cData
    rw [front_ok, pbytes_ok (x := x) (by omega), ocat_some, show pbytes [] 2 65535 = some [0, 0] by decide +kernel, ocat_some, show pattrs [] = some [0] by decide +kernel, ocat_some, ocat_some]
  rw [this]
  refine ⟨_, if_neg ?_⟩
  simp only [List.length_append, List.length_replicate, num_len _ 4 (by omega), h, List.length_cons, List.length_nil]
  omega
theorem bigC (x : List UInt8) (h : x.length = 65536) : frameO (callO (cMore x)) = none := by
  have : callO (cMore x) = none := by
    unfold callO cMore
    rw [pbytes_no (x := x) (by omega), ocat_none2, ocat_none, ocat_none]
  rw [this]; rfl
theorem bigD (l : List (Int × List UInt8)) (h : l.length = 65) : frameO (callO (cT1 l)) = none := by
  have : callO (cT1 l) = none := by
    unfold callO cT1
    have : pattrs l = none := by unfold pattrs; rw [pnum_no (by omega), ocat_none]
    rw [this, ocat_none2, ocat_none]
  rw [this]; rfl
theorem bigE (l : List Int) (h : l.length = 1025) : frameO (replyO (rList l)) = none := by
  have : replyO (rList l) = none := by
    unfold replyO rList
    have : pints l = none := by unfold pints; rw [pnum_no (by omega), ocat_none]
    rw [this, ocat_none2, ocat_none]
  rw [this]; rfl
theorem bigF (x : List UInt8) (h : x.length = 16385) : frameO (replyO (rAttrs [(0, x)])) = none := by
  have : replyO (rAttrs [(0, x)]) = none := by
    unfold replyO rAttrs
    have : pattrs [(0, x)] = none := by
      unfold pattrs
      have : pcat ([(0, x)].map pattr) = none := by
        show ocat (pattr (0, x)) _ = none
        unfold pattr
        rw [pbytes_no (x := x) (by omega), ocat_none2, ocat_none]
      rw [this, ocat_none2]
    rw [this, ocat_none2]
  rw [this]; rfl
theorem pcat_len (p : Int × List UInt8 → Option (List UInt8)) (n : Nat) : ∀ (l : List (Int × List UInt8)) (y : List UInt8), (∀ a ∈ l, ∀ z, p a = some z → n ≤ z.length) → pcat (l.map p) = some y → l.length * n ≤ y.length
  | [], y, _, _ => by simp
  | a :: l, y, h, hy => by
    rw [List.map_cons, pcat] at hy
    cases ha : p a with
    | none => rw [ha] at hy; cases hy
    | some z =>
      rw [ha] at hy
      cases hl : pcat (l.map p) with
      | none => rw [hl] at hy; cases hy
      | some t =>
        rw [hl, ocat_some] at hy
        injection hy with hy
        have h1 := h a (by simp) z ha
        have h2 := pcat_len p n l t (fun b hb => h b (by simp [hb])) hl
        rw [← hy, List.length_append, List.length_cons, Nat.add_mul, Nat.one_mul]
        omega
theorem ocat_len {s t : Option (List UInt8)} {y : List UInt8} (h : ocat s t = some y) : ∃ a b, s = some a ∧ t = some b ∧ y = a ++ b := by
  cases s with
  | none => cases h
  | some a =>
    cases t with
    | none => cases h
    | some b => rw [ocat_some] at h; injection h with h; exact ⟨a, b, rfl, rfl, h.symm⟩
theorem bigG (l : List (Int × List UInt8)) (h : l.length = 17) (hx : ∀ a ∈ l, a.2.length = 16384) : frameO (callO (cT1 l)) = none := by
  cases hc : callO (cT1 l) with
  | none => rfl
  | some y =>
    unfold callO cT1 at hc
    obtain ⟨a, b, ha, hb, rfl⟩ := ocat_len hc
    obtain ⟨a1, b1, ha1, hb1, rfl⟩ := ocat_len ha
    unfold pattrs at hb1
    obtain ⟨a2, b2, ha2, hb2, rfl⟩ := ocat_len hb1
    have := pcat_len pattr 16384 l b2 (fun c hc z hz => by
      unfold pattr at hz
      obtain ⟨u, v, _, hv, rfl⟩ := ocat_len hz
      unfold pbytes at hv
      obtain ⟨u', v', _, hv', rfl⟩ := ocat_len hv
      injection hv' with hv'
      rw [← hv', List.length_append, List.length_append, hx c hc]
      omega) hb2
    refine if_pos ?_
    simp only [List.length_append]
    omega
end Go.Proofs.Ytmanpfenmamflaa
