/-
  RFC 8017's encodings, plainly: OAEP and PSS over any hash and any mask.
  RFC 8017's first padding and DigestInfo, plainly.
-/
import Derived.Test.YtddemlajfbagdaaDoorBase
namespace Go.Proofs.YtddemlajfbagdaaDoor
set_option maxRecDepth 100000

def xorB (a b : List UInt8) : List UInt8 := List.zipWith (· ^^^ ·) a b
theorem xorB_len (a b : List UInt8) (h : a.length ≤ b.length) : (xorB a b).length = a.length := by unfold xorB; rw [List.length_zipWith, Nat.min_eq_left h]
theorem xorB_back (a b : List UInt8) (h : a.length ≤ b.length) : xorB (xorB a b) b = a := by
  unfold xorB
  induction a generalizing b with
  | nil => simp
  | cons x a ih =>
    cases b with
    | nil => simp at h
    | cons y b =>
      simp only [List.zipWith_cons_cons]
      rw [ih b (by simpa using h)]
      simp [UInt8.xor_assoc]
theorem xorB_cons (x y : UInt8) (a b : List UInt8) : xorB (x :: a) (y :: b) = (x ^^^ y) :: xorB a b := rfl
/-- The bytes without the zeros ahead of them. -/
def trimZ (l : List UInt8) : List UInt8 := l.dropWhile (· == 0)
theorem trimZ_zeros (k : Nat) (l : List UInt8) : trimZ (List.replicate k 0 ++ l) = trimZ l := by
  induction k with
  | zero => rfl
  | succ k ih =>
    rw [List.replicate_succ, List.cons_append]
    unfold trimZ
    rw [List.dropWhile_cons_of_pos (by decide)]
    exact ih
theorem trimZ_one (l : List UInt8) : trimZ (1 :: l) = 1 :: l := by
  unfold trimZ
  rw [List.dropWhile_cons_of_neg (by decide)]
theorem trimZ_form (l : List UInt8) : ∃ k, l = List.replicate k 0 ++ trimZ l := by
  induction l with
  | nil => exact ⟨0, rfl⟩
  | cons x l ih =>
    by_cases h : x = 0
    · subst h
      obtain ⟨k, hk⟩ := ih
      refine ⟨k + 1, ?_⟩
      have : trimZ (0 :: l) = trimZ l := by unfold trimZ; rw [List.dropWhile_cons_of_pos (by decide)]
      rw [this, List.replicate_succ, List.cons_append, ← hk]
    · refine ⟨0, ?_⟩
      unfold trimZ
      rw [List.dropWhile_cons_of_neg (by simpa using h)]
      rfl
theorem trimZ_le (l : List UInt8) : (trimZ l).length ≤ l.length := by
  obtain ⟨k, hk⟩ := trimZ_form l
  conv => rhs; rw [hk, List.length_append]
  omega
section
variable (h : Nat) (Hf : List UInt8 → List UInt8) (Mf : List UInt8 → Nat → List UInt8)
/-- OAEP. -/
def oaepDb (n : Nat) (label m : List UInt8) : List UInt8 := Hf label ++ List.replicate (n - 2 * h - 2 - m.length) 0 ++ 1 :: m
def encO (n : Nat) (label seed m : List UInt8) : List UInt8 :=
  0 :: (xorB seed (Mf (xorB (oaepDb h Hf n label m) (Mf seed (oaepDb h Hf n label m).length)) h) ++ xorB (oaepDb h Hf n label m) (Mf seed (oaepDb h Hf n label m).length))
def decDb (em : List UInt8) : List UInt8 := xorB (em.drop (1 + h)) (Mf (xorB ((em.drop 1).take h) (Mf (em.drop (1 + h)) h)) (em.drop (1 + h)).length)
def decO (label em : List UInt8) : Option (List UInt8) :=
  if (decDb h Mf em).take h = Hf label then (match trimZ ((decDb h Mf em).drop h) with | [] => none | x :: r => if x = 1 then some r else none) else none
theorem oaepDb_len (n : Nat) (label m : List UInt8) (hH : (Hf label).length = h) (hn : m.length + 2 * h + 2 ≤ n) : (oaepDb h Hf n label m).length = n - h - 1 := by
  unfold oaepDb
  simp only [List.length_append, List.length_replicate, List.length_cons]
  omega
theorem encO_back (n : Nat) (label seed m : List UInt8) (hH : (Hf label).length = h) (hM : ∀ s k, 1 ≤ k → k ≤ 65536 → s.length ≤ 1000 → (Mf s k).length = k) (hs : seed.length = h) (hh : 1 ≤ h) (hh2 : h ≤ 64) (hn : m.length + 2 * h + 2 ≤ n) (hn2 : n ≤ 1000) :
    decO h Hf Mf label (encO h Hf Mf n label seed m) = some m ∧ (encO h Hf Mf n label seed m).length = n := by
  have hl := oaepDb_len h Hf n label m hH hn
  obtain ⟨db, hdb⟩ : ∃ db, oaepDb h Hf n label m = db := ⟨_, rfl⟩
  unfold encO decO decDb
  rw [hdb] at hl ⊢
  have hM1 := hM seed db.length (by omega) (by omega) (by omega)
  obtain ⟨M1, hM1e⟩ : ∃ M, Mf seed db.length = M := ⟨_, rfl⟩
  rw [hM1e] at hM1 ⊢
  have hx := xorB_len db M1 (by omega)
  have hxb := xorB_back db M1 (by omega)
  obtain ⟨mk, hmk⟩ : ∃ mk, xorB db M1 = mk := ⟨_, rfl⟩
  rw [hmk] at hx hxb ⊢
  have hM2 := hM mk h hh (by omega) (by omega)
  obtain ⟨M2, hM2e⟩ : ∃ M, Mf mk h = M := ⟨_, rfl⟩
  rw [hM2e] at hM2 ⊢
  have hy := xorB_len seed M2 (by omega)
  have hyb := xorB_back seed M2 (by omega)
  obtain ⟨sd, hsd⟩ : ∃ sd, xorB seed M2 = sd := ⟨_, rfl⟩
  rw [hsd] at hy hyb ⊢
  have d1 : (0 :: (sd ++ mk)).drop (1 + h) = mk := by
    rw [Nat.add_comm 1 h, List.drop_succ_cons, List.drop_append_of_le_length (by omega), List.drop_eq_nil_of_le (by omega), List.nil_append]
  have d2 : ((0 :: (sd ++ mk)).drop 1).take h = sd := by
    rw [List.drop_succ_cons, List.drop_zero, List.take_append_of_le_length (by omega), List.take_of_length_le (by omega)]
  rw [d1, d2, hM2e, hyb, hx, hM1e, hxb]
  refine ⟨?_, by simp only [List.length_cons, List.length_append]; omega⟩
  have t1 : db.take h = Hf label := by
    rw [← hdb]; unfold oaepDb
    rw [List.append_assoc, List.take_append_of_le_length (by omega), List.take_of_length_le (by omega)]
  have t2 : db.drop h = List.replicate (n - 2 * h - 2 - m.length) 0 ++ 1 :: m := by
    rw [← hdb]; unfold oaepDb
    rw [List.append_assoc, List.drop_append_of_le_length (by omega), List.drop_eq_nil_of_le (by omega), List.nil_append]
  rw [if_pos t1, t2, trimZ_zeros, trimZ_one]
  rfl
/-- PSS. -/
def topB (bits n : Nat) : UInt8 := UInt8.ofNat (255 >>> (8 * n - bits))
def headAnd (l : List UInt8) (t : UInt8) : List UInt8 := match l with | [] => [] | x :: r => (x &&& t) :: r
def pssDb (n : Nat) (salt : List UInt8) : List UInt8 := List.replicate (n - h - 2 - salt.length) 0 ++ 1 :: salt
def pssH (hash salt : List UInt8) : List UInt8 := Hf (List.replicate 8 0 ++ hash ++ salt)
def encP (bits n : Nat) (hash salt : List UInt8) : List UInt8 :=
  headAnd (xorB (pssDb h n salt) (Mf (pssH Hf hash salt) (pssDb h n salt).length)) (topB bits n) ++ pssH Hf hash salt ++ [188]
def verDb (bits n : Nat) (em : List UInt8) : List UInt8 := headAnd (xorB (em.take (n - h - 1)) (Mf ((em.drop (n - h - 1)).take h) (n - h - 1))) (topB bits n)
def verP (bits n : Nat) (hash em : List UInt8) (salt : Nat) : Prop :=
  em.getD (n - 1) 0 = 188 ∧ em.getD 0 0 &&& ~~~ (topB bits n) = 0 ∧ ∃ s, trimZ (verDb h Mf bits n em) = 1 :: s ∧ s.length = salt ∧ (em.drop (n - h - 1)).take h = pssH Hf hash s
theorem headAnd_len (l : List UInt8) (t : UInt8) : (headAnd l t).length = l.length := by cases l <;> rfl
theorem pssDb_len (n : Nat) (salt : List UInt8) (hn : h + salt.length + 2 ≤ n) : (pssDb h n salt).length = n - h - 1 := by
  unfold pssDb
  simp only [List.length_append, List.length_replicate, List.length_cons]
  omega
theorem and_xor_and (x y t : UInt8) : (((x ^^^ y) &&& t) ^^^ y) &&& t = x &&& t := by
  apply UInt8.toBitVec_inj.1
  simp only [UInt8.toBitVec_and, UInt8.toBitVec_xor]
  ext i hi
  simp
  cases x.toBitVec[i] <;> cases y.toBitVec[i] <;> cases t.toBitVec[i] <;> rfl
theorem and_not_and (x t : UInt8) : (x &&& t) &&& ~~~ t = 0 := by
  apply UInt8.toBitVec_inj.1
  simp only [UInt8.toBitVec_and, UInt8.toBitVec_not]
  ext i hi
  simp
theorem top_one (bits n : Nat) (hb : bits ≤ 8 * n) (hb2 : 8 * n < bits + 8) (x : UInt8) (hx : x = 0 ∨ x = 1) : x &&& topB bits n = x := by
  obtain ⟨k, hk, hk8⟩ : ∃ k, 8 * n - bits = k ∧ k < 8 := ⟨_, rfl, by omega⟩
  unfold topB
  rw [hk]
  have hcase : k = 0 ∨ k = 1 ∨ k = 2 ∨ k = 3 ∨ k = 4 ∨ k = 5 ∨ k = 6 ∨ k = 7 := by omega
  rcases hx with rfl | rfl
  · rcases hcase with rfl | rfl | rfl | rfl | rfl | rfl | rfl | rfl <;> decide
  · rcases hcase with rfl | rfl | rfl | rfl | rfl | rfl | rfl | rfl <;> decide
theorem top_keep (x t : UInt8) (hx : x &&& ~~~ t = 0) : x &&& t = x := by
  have h2 : (x &&& t) ||| (x &&& ~~~ t) = x := by
    apply UInt8.toBitVec_inj.1
    simp only [UInt8.toBitVec_and, UInt8.toBitVec_or, UInt8.toBitVec_not]
    ext i hi
    simp
    cases x.toBitVec[i] <;> cases t.toBitVec[i] <;> rfl
  rw [hx] at h2
  simpa using h2
/-- The first byte's top bits are cut off, the mask laid off and on again. -/
theorem headAnd_twice (l M : List UInt8) (t : UInt8) (hl : l.length ≤ M.length) : headAnd (xorB (headAnd (xorB l M) t) M) t = headAnd l t := by
  cases l with
  | nil => rfl
  | cons x l =>
    cases M with
    | nil => simp at hl
    | cons y M =>
      simp only [xorB_cons, headAnd]
      rw [and_xor_and, xorB_back l M (by simpa using hl)]
theorem headAnd_same (l : List UInt8) (t : UInt8) (h : l.getD 0 0 &&& t = l.getD 0 0) : headAnd l t = l := by
  cases l with
  | nil => rfl
  | cons x l =>
    simp only [headAnd]
    congr 1
theorem pssDb_head (n : Nat) (salt : List UInt8) : (pssDb h n salt).getD 0 0 = 0 ∨ (pssDb h n salt).getD 0 0 = 1 := by
  unfold pssDb
  rcases Nat.eq_zero_or_pos (n - h - 2 - salt.length) with h0 | h0
  · rw [h0]; right; rfl
  · obtain ⟨k, hk⟩ : ∃ k, n - h - 2 - salt.length = k + 1 := ⟨_, (Nat.succ_pred_eq_of_pos h0).symm⟩
    rw [hk, List.replicate_succ]; left; rfl
theorem headAnd_head (l : List UInt8) (t : UInt8) : (headAnd l t).getD 0 0 &&& ~~~ t = 0 := by
  cases l with
  | nil => simp [headAnd]
  | cons x l =>
    show (x &&& t) &&& ~~~ t = 0
    exact and_not_and x t
/-- An encoding's parts. -/
theorem encP_parts (bits n : Nat) (hash salt : List UInt8) (hH : ∀ l, (Hf l).length = h) (hM : (Mf (pssH Hf hash salt) (n - h - 1)).length = n - h - 1) (hn : h + salt.length + 2 ≤ n) :
    (encP h Hf Mf bits n hash salt).length = n ∧ (encP h Hf Mf bits n hash salt).take (n - h - 1) = headAnd (xorB (pssDb h n salt) (Mf (pssH Hf hash salt) (n - h - 1))) (topB bits n) ∧
      ((encP h Hf Mf bits n hash salt).drop (n - h - 1)).take h = pssH Hf hash salt ∧ (encP h Hf Mf bits n hash salt).getD (n - 1) 0 = 188 := by
  have hl := pssDb_len h n salt hn
  unfold encP
  rw [hl]
  have hx := xorB_len (pssDb h n salt) (Mf (pssH Hf hash salt) (n - h - 1)) (by omega)
  have hy := headAnd_len (xorB (pssDb h n salt) (Mf (pssH Hf hash salt) (n - h - 1))) (topB bits n)
  obtain ⟨X, hX⟩ : ∃ X, headAnd (xorB (pssDb h n salt) (Mf (pssH Hf hash salt) (n - h - 1))) (topB bits n) = X := ⟨_, rfl⟩
  rw [hX] at hy ⊢
  have hxl : X.length = n - h - 1 := by omega
  have hhl : (pssH Hf hash salt).length = h := hH _
  obtain ⟨Z, hZ⟩ : ∃ Z, pssH Hf hash salt = Z := ⟨_, rfl⟩
  rw [hZ] at hhl ⊢
  refine ⟨?_, ?_, ?_, ?_⟩
  · simp only [List.length_append, List.length_singleton]; omega
  · rw [List.append_assoc, List.take_append_of_le_length (by omega), List.take_of_length_le (by omega)]
  · rw [List.append_assoc, List.drop_append_of_le_length (by omega), List.drop_eq_nil_of_le (by omega), List.nil_append, List.take_append_of_le_length (by omega), List.take_of_length_le (by omega)]
  · rw [List.getD_eq_getElem?_getD, List.getElem?_append_right (by simp only [List.length_append]; omega)]
    rw [show n - 1 - (X ++ Z).length = 0 by simp only [List.length_append]; omega]
    rfl
theorem verP_enc (bits n : Nat) (hash salt : List UInt8) (hH : ∀ l, (Hf l).length = h) (hM : ∀ s k, 1 ≤ k → k ≤ 65536 → s.length ≤ 1000 → (Mf s k).length = k) (hh : h ≤ 64) (hn : h + salt.length + 2 ≤ n) (hn2 : n ≤ 8192) (hb : bits ≤ 8 * n) (hb2 : 8 * n < bits + 8) :
    verP h Hf Mf bits n hash (encP h Hf Mf bits n hash salt) salt.length ∧ (encP h Hf Mf bits n hash salt).length = n ∧ trimZ (verDb h Mf bits n (encP h Hf Mf bits n hash salt)) = 1 :: salt := by
  have hM' : (Mf (pssH Hf hash salt) (n - h - 1)).length = n - h - 1 := hM _ _ (by omega) (by omega) (by have := hH (List.replicate 8 0 ++ hash ++ salt); unfold pssH; omega)
  obtain ⟨p1, p2, p3, p4⟩ := encP_parts h Hf Mf bits n hash salt hH hM' hn
  have hl := pssDb_len h n salt hn
  have ht : trimZ (verDb h Mf bits n (encP h Hf Mf bits n hash salt)) = 1 :: salt := by
    unfold verDb
    rw [p2, p3, headAnd_twice _ _ _ (by omega), headAnd_same _ _ (top_one bits n hb hb2 _ (pssDb_head h n salt))]
    unfold pssDb
    rw [trimZ_zeros, trimZ_one]
  refine ⟨⟨p4, ?_, salt, ht, rfl, p3⟩, p1, ht⟩
  have : (encP h Hf Mf bits n hash salt).getD 0 0 = ((encP h Hf Mf bits n hash salt).take (n - h - 1)).getD 0 0 := by
    rw [List.getD_eq_getElem?_getD, List.getD_eq_getElem?_getD, List.getElem?_take_of_lt (by omega)]
  rw [this, p2]
  exact headAnd_head _ _
theorem headAnd_drop (l : List UInt8) (t : UInt8) (k : Nat) (hk : 1 ≤ k) : (headAnd l t).drop k = l.drop k := by
  cases l with
  | nil => rfl
  | cons x l =>
    obtain ⟨j, rfl⟩ : ∃ j, k = j + 1 := ⟨k - 1, by omega⟩
    rfl
/-- What is taken is what is made again of the salt that lies in it. -/
theorem verP_iff (bits n : Nat) (hash em : List UInt8) (salt : Nat) (hH : ∀ l, (Hf l).length = h) (hM : ∀ s k, 1 ≤ k → k ≤ 65536 → s.length ≤ 1000 → (Mf s k).length = k) (hh : h ≤ 64) (hn : h + salt + 2 ≤ n) (hn2 : n ≤ 8192) (hb : bits ≤ 8 * n) (hb2 : 8 * n < bits + 8) (hem : em.length = n) :
    verP h Hf Mf bits n hash em salt ↔ encP h Hf Mf bits n hash ((xorB (em.take (n - h - 1)) (Mf ((em.drop (n - h - 1)).take h) (n - h - 1))).drop (n - h - 1 - salt)) = em := by
  obtain ⟨x, hx⟩ : ∃ x, em.take (n - h - 1) = x := ⟨_, rfl⟩
  obtain ⟨z, hz⟩ : ∃ z, (em.drop (n - h - 1)).take h = z := ⟨_, rfl⟩
  have hxl : x.length = n - h - 1 := by rw [← hx, List.length_take]; omega
  have hzl : z.length = h := by rw [← hz, List.length_take, List.length_drop]; omega
  have hMl : (Mf z (n - h - 1)).length = n - h - 1 := hM _ _ (by omega) (by omega) (by omega)
  obtain ⟨M, hMe⟩ : ∃ M, Mf z (n - h - 1) = M := ⟨_, rfl⟩
  have hvd : verDb h Mf bits n em = headAnd (xorB x M) (topB bits n) := by unfold verDb; rw [hx, hz, hMe]
  rw [hMe] at hMl
  rw [hx, hz, hMe]
  have hxm := xorB_len x M (by omega)
  have hem0 : em.getD 0 0 = x.getD 0 0 := by
    rw [← hx, List.getD_eq_getElem?_getD, List.getD_eq_getElem?_getD, List.getElem?_take_of_lt (by omega)]
  constructor
  · rintro ⟨h1, h2, s, h3, h4, h5⟩
    rw [hz] at h5
    rw [hvd] at h3
    rw [hem0] at h2
    obtain ⟨k, hk⟩ := trimZ_form (headAnd (xorB x M) (topB bits n))
    rw [h3] at hk
    have hkl := congrArg List.length hk
    rw [headAnd_len, List.length_append, List.length_replicate, List.length_cons] at hkl
    have hs : (xorB x M).drop (n - h - 1 - salt) = s := by
      rw [← headAnd_drop (xorB x M) (topB bits n) _ (by omega), hk, show List.replicate k (0 : UInt8) ++ 1 :: s = (List.replicate k 0 ++ [1]) ++ s by simp, List.drop_append_of_le_length (by simp; omega), List.drop_eq_nil_of_le (by simp; omega), List.nil_append]
    rw [hs]
    have hdb : pssDb h n s = headAnd (xorB x M) (topB bits n) := by
      rw [hk]; unfold pssDb
      rw [show n - h - 2 - s.length = k by omega]
    unfold encP
    rw [← h5, hdb, headAnd_len, hxm, hxl, hMe, headAnd_twice x M _ (by omega), headAnd_same x _ (top_keep _ _ h2)]
    have hlast : em.drop (n - 1) = [188] := by
      obtain ⟨y, hy⟩ : ∃ y, em.drop (n - 1) = [y] := by
        have h9 : (em.drop (n - 1)).length = 1 := by rw [List.length_drop]; omega
        exact List.length_eq_one_iff.1 h9
      have h8 : em.getD (n - 1) 0 = y := by
        have h7 : (em.drop (n - 1))[0]? = some y := by rw [hy]; rfl
        rw [List.getElem?_drop, Nat.add_zero] at h7
        rw [List.getD_eq_getElem?_getD, h7]; rfl
      rw [hy, ← h8, h1]
    rw [← hlast, ← hx, ← hz, List.append_assoc]
    conv => rhs; rw [← List.take_append_drop (n - h - 1) em, ← List.take_append_drop h (em.drop (n - h - 1)), List.drop_drop, show n - h - 1 + h = n - 1 by omega]
  · intro he
    obtain ⟨s, hs⟩ : ∃ s, (xorB x M).drop (n - h - 1 - salt) = s := ⟨_, rfl⟩
    rw [hs] at he
    have hsl : s.length = salt := by rw [← hs, List.length_drop]; omega
    have hv := (verP_enc h Hf Mf bits n hash s hH hM hh (by omega) hn2 hb hb2).1
    rw [he, hsl] at hv
    exact hv
end
end Go.Proofs.YtddemlajfbagdaaDoor
namespace Go.Proofs.YtddemlajfbagdaaDoor
set_option maxRecDepth 100000

/-- A hash function's name. -/
def oidB (kind : Int) : List UInt8 :=
  if kind = 1 then [0x2b, 0x0e, 0x03, 0x02, 0x1a] else if kind = 2 then [0x60, 0x86, 0x48, 0x01, 0x65, 0x03, 0x04, 0x02, 0x04]
  else if kind = 3 then [0x60, 0x86, 0x48, 0x01, 0x65, 0x03, 0x04, 0x02, 0x01] else if kind = 4 then [0x60, 0x86, 0x48, 0x01, 0x65, 0x03, 0x04, 0x02, 0x02]
  else if kind = 5 then [0x60, 0x86, 0x48, 0x01, 0x65, 0x03, 0x04, 0x02, 0x03] else []
def heldB (tag : UInt8) (b : List UInt8) : List UInt8 := tag :: UInt8.ofNat b.length :: b
def infoB (kind : Int) (hash : List UInt8) : List UInt8 := heldB 0x30 (heldB 0x30 (heldB 6 (oidB kind) ++ heldB 5 []) ++ heldB 4 hash)
/-- The first kind. -/
def sign1F (n : Int) (t : List UInt8) : List UInt8 × Int :=
  if 65536 < n then ([], 7) else if n < 11 ∨ n - 11 < (t.length : Int) then ([], 33) else ([0, 1] ++ List.replicate (n.toNat - 3 - t.length) 255 ++ 0 :: t, 0)
/-- The first bytes that are not zero, so many; and how many bytes were asked for. -/
def nzT : Nat → List UInt8 → List UInt8 × Nat
  | 0, _ => ([], 0)
  | _ + 1, [] => ([], 0)
  | n + 1, x :: l => if x = 0 then ((nzT (n + 1) l).1, (nzT (n + 1) l).2 + 1) else (x :: (nzT n l).1, (nzT n l).2 + 1)
def enc1F (n : Int) (m r : List UInt8) : List UInt8 × Int × Nat :=
  if 65536 < n then ([], 7, 0) else if n < 11 ∨ n - 11 < (m.length : Int) then ([], 33, 0)
  else if (nzT (n.toNat - 3 - m.length) r).1.length < n.toNat - 3 - m.length then ([], 5, (nzT (n.toNat - 3 - m.length) r).2)
  else ([0, 2] ++ (nzT (n.toNat - 3 - m.length) r).1 ++ 0 :: m, 0, (nzT (n.toNat - 3 - m.length) r).2)
/-- What stands behind the first zero. -/
def cutZ : List UInt8 → Option (Nat × List UInt8)
  | [] => none
  | x :: l => if x = 0 then some (0, l) else (cutZ l).map fun y => (y.1 + 1, y.2)
def dec1F (em : List UInt8) : List UInt8 × Int :=
  if em.length < 2 ∨ em.getD 0 0 ≠ 0 ∨ em.getD 1 0 ≠ 2 then ([], 64) else match cutZ (em.drop 2) with
    | none => ([], 64)
    | some (k, r) => if k < 8 then ([], 64) else (r, 0)
theorem nzT_ne : ∀ (n : Nat) (l : List UInt8), ∀ x ∈ (nzT n l).1, x ≠ 0
  | 0, _, x, h => by simp [nzT] at h
  | n + 1, [], x, h => by simp [nzT] at h
  | n + 1, y :: l, x, h => by
    unfold nzT at h
    split at h
    · exact nzT_ne (n + 1) l x h
    · rename_i h0
      rcases List.mem_cons.1 h with rfl | h
      · exact h0
      · exact nzT_ne n l x h
theorem nzT_le : ∀ (n : Nat) (l : List UInt8), (nzT n l).1.length ≤ n ∧ (nzT n l).2 ≤ l.length
  | 0, _ => by simp [nzT]
  | n + 1, [] => by simp [nzT]
  | n + 1, y :: l => by
    unfold nzT
    split
    · have := nzT_le (n + 1) l; simp only [List.length_cons]; omega
    · have := nzT_le n l; simp only [List.length_cons]; omega
theorem cutZ_at : ∀ (a r : List UInt8), (∀ x ∈ a, x ≠ 0) → cutZ (a ++ 0 :: r) = some (a.length, r)
  | [], r, _ => by simp [cutZ]
  | x :: a, r, h => by
    have hx := h x (by simp)
    have ih := cutZ_at a r (fun y hy => h y (by simp [hy]))
    simp [cutZ, hx, ih]
theorem dec1_enc1 (n : Int) (m r : List UInt8) (h : (enc1F n m r).2.1 = 0) : dec1F (enc1F n m r).1 = (m, 0) := by
  unfold enc1F at h ⊢
  split at h
  · cases h
  · rename_i h1
    rw [if_neg h1]
    split at h
    · cases h
    · rename_i h2
      rw [if_neg h2]
      split at h
      · cases h
      · rename_i h3
        rw [if_neg h3]
        obtain ⟨k, hk⟩ : ∃ k, n.toNat - 3 - m.length = k := ⟨_, rfl⟩
        rw [hk] at h3 ⊢
        have hle := (nzT_le k r).1
        have hne := nzT_ne k r
        obtain ⟨a, ha⟩ : ∃ a, (nzT k r).1 = a := ⟨_, rfl⟩
        rw [ha] at h3 hle hne ⊢
        have hk8 : 8 ≤ k := by omega
        unfold dec1F
        show (if _ then _ else _) = _
        rw [if_neg (by simp)]
        show (match cutZ (a ++ 0 :: m) with | none => _ | some (k, r) => _) = _
        rw [cutZ_at a m hne]
        show (if a.length < 8 then _ else _) = _
        rw [if_neg (by omega)]
end Go.Proofs.YtddemlajfbagdaaDoor
