/-
  A store, plainly: its records by rising numbers, the bytes that stand for them on a volume, and reading them back.
-/
import Derived.Test.YtgjnmpjimhbfgaaGreatDoorZzFs0
import Derived.Test.YtgjnmpjimhbfgaaGreatDoorZzAudP
namespace Go.Proofs.YtgjnmpjimhbfgaaGreatDoor
set_option maxRecDepth 100000
open Go.RowKit
abbrev SRec := Int × List UInt8
def sget (M : List SRec) (x : Int) : Option (List UInt8) := (M.find? (fun p => p.1 == x)).map (·.2)
def sdel (M : List SRec) (x : Int) : List SRec := M.filter (fun p => p.1 != x)
def sput : List SRec → Int → List UInt8 → List SRec
 | [], x, b => [(x, b)]
 | p :: M, x, b => if p.1 < x then p :: sput M x b else if p.1 = x then (x, b) :: M else (x, b) :: p :: M
def Rising (M : List SRec) : Prop := M.Pairwise (fun a b => a.1 < b.1)
theorem Rising.nil : Rising [] := List.Pairwise.nil
theorem sput_mem {M : List SRec} {x : Int} {b : List UInt8} {p : SRec} (h : p ∈ sput M x b) : p = (x, b) ∨ p ∈ M := by
 induction M with
 | nil => simp [sput] at h; exact .inl h
 | cons q M ih =>
  unfold sput at h
  split at h
  ·rcases List.mem_cons.1 h with h | h
   ·exact .inr (by simp [h])
   ·rcases ih h with h | h
    ·exact .inl h
    ·exact .inr (by simp [h])
  ·split at h
   ·rcases List.mem_cons.1 h with h | h
    ·exact .inl h
    ·exact .inr (by simp [h])
   ·rcases List.mem_cons.1 h with h | h
    ·exact .inl h
    ·exact .inr h
theorem Rising.put {M : List SRec} (h : Rising M) (x : Int) (b : List UInt8) : Rising (sput M x b) := by
 induction M with
 | nil => simp [sput, Rising]
 | cons p M ih =>
  obtain ⟨h1, h2⟩ := List.pairwise_cons.1 h
  unfold sput
  split
  ·rename_i hlt
   refine List.pairwise_cons.2 ⟨fun q hq => ?_, ih h2⟩
   rcases sput_mem hq with rfl | hq
   ·exact hlt
   ·exact h1 q hq
  ·split
   ·rename_i heq
    refine List.pairwise_cons.2 ⟨fun q hq => ?_, h2⟩
    have := h1 q hq
    show x < q.1
    omega
   ·rename_i h3 h4
    refine List.pairwise_cons.2 ⟨fun q hq => ?_, h⟩
    rcases List.mem_cons.1 hq with rfl | hq
    ·show x < q.1
     omega
    ·have := h1 q hq
     show x < q.1
     omega
theorem Rising.del {M : List SRec} (h : Rising M) (x : Int) : Rising (sdel M x) := List.Pairwise.filter _ h
theorem sget_nil (x : Int) : sget [] x = none := rfl
theorem sget_cons (p : SRec) (M : List SRec) (x : Int) : sget (p :: M) x = if p.1 = x then some p.2 else sget M x := by
 unfold sget
 rw [List.find?_cons]
 by_cases h : p.1 = x
 ·rw [if_pos h]; simp [h]
 ·rw [if_neg h]
  have : (p.1 == x) = false := by simpa using h
  rw [this]
theorem sget_lt {M : List SRec} {x : Int} (h : ∀ p ∈ M, x < p.1) : sget M x = none := by
 induction M with
 | nil => rfl
 | cons p M ih =>
  have := h p (by simp)
  rw [sget_cons, if_neg (by omega)]
  exact ih (fun q hq => h q (by simp [hq]))
theorem sget_put {M : List SRec} (h : Rising M) (x : Int) (b : List UInt8) (y : Int) : sget (sput M x b) y = if y = x then some b else sget M y := by
 induction M with
 | nil =>
  simp only [sput, sget_cons, sget_nil]
  by_cases e : y = x
  ·rw [if_pos e.symm, if_pos e]
  ·rw [if_neg (fun h => e h.symm), if_neg e]
 | cons p M ih =>
  obtain ⟨h1, h2⟩ := List.pairwise_cons.1 h
  unfold sput
  split
  ·rename_i hlt
   rw [sget_cons, ih h2, sget_cons]
   by_cases e : p.1 = y
   ·rw [if_pos e, if_pos e, if_neg (by omega)]
   ·rw [if_neg e, if_neg e]
  ·split
   ·rename_i heq
    rw [sget_cons, sget_cons]
    by_cases e : y = x
    ·rw [if_pos e.symm, if_pos e]
    ·rw [if_neg (fun h => e h.symm), if_neg e, if_neg (by omega)]
   ·rw [sget_cons]
    by_cases e : y = x
    ·rw [if_pos e.symm, if_pos e]
    ·rw [if_neg (fun h => e h.symm), if_neg e]
theorem sget_del (M : List SRec) (x y : Int) : sget (sdel M x) y = if y = x then none else sget M y := by
 induction M with
 | nil => simp [sdel, sget_nil]
 | cons p M ih =>
  by_cases hp : p.1 = x
  ·have e1 : sdel (p :: M) x = sdel M x := by simp [sdel, hp]
   rw [e1, ih, sget_cons]
   by_cases e : y = x
   ·rw [if_pos e, if_pos e]
   ·rw [if_neg e, if_neg e, if_neg (by omega)]
  ·have e1 : sdel (p :: M) x = p :: sdel M x := by simp [sdel, hp]
   rw [e1, sget_cons, ih, sget_cons]
   by_cases e : y = x
   ·rw [if_neg (by omega), if_pos e, if_pos e]
   ·rw [if_neg e, if_neg e]
theorem sget_mem {M : List SRec} (h : Rising M) {p : SRec} (hp : p ∈ M) : sget M p.1 = some p.2 := by
 induction M with
 | nil => cases hp
 | cons q M ih =>
  obtain ⟨h1, h2⟩ := List.pairwise_cons.1 h
  rw [sget_cons]
  rcases List.mem_cons.1 hp with rfl | hp
  ·rw [if_pos rfl]
  ·have := h1 p hp
   rw [if_neg (by omega)]
   exact ih h2 hp
theorem sget_some {M : List SRec} {x : Int} {b : List UInt8} (h : sget M x = some b) : (x, b) ∈ M := by
 induction M with
 | nil => cases h
 | cons q M ih =>
  rw [sget_cons] at h
  split at h
  ·rename_i e
   injection h with h
   subst h
   rw [← e]
   simp
  ·simp [ih h]
theorem sput_end {M : List SRec} {x : Int} {b : List UInt8} (h : ∀ p ∈ M, p.1 < x) : sput M x b = M ++ [(x, b)] := by
 induction M with
 | nil => rfl
 | cons p M ih =>
  unfold sput
  rw [if_pos (h p (by simp)), ih (fun q hq => h q (by simp [hq]))]
  rfl
def sload (M : List SRec) : Nat := (M.map (fun p => p.2.length + 8)).sum
theorem sload_cons (p : SRec) (M : List SRec) : sload (p :: M) = p.2.length + 8 + sload M := by simp [sload]
def entB (p : SRec) : List UInt8 := beTail p.1.toNat 2 ++ beTail p.2.length 2 ++ p.2
def magB : List UInt8 := [98, 97, 105, 108, 101, 121, 39, 115, 32, 115, 116, 111, 114, 101, 10]
def pagesB (M : List SRec) : List UInt8 := magB ++ beTail M.length 4 ++ M.flatMap entB
theorem entB_len (p : SRec) : (entB p).length = p.2.length + 4 := by simp [entB, beTail_len]; omega
theorem ents_len (M : List SRec) : (M.flatMap entB).length + 4 * M.length = sload M := by
 induction M with
 | nil => rfl
 | cons p M ih =>
  rw [List.flatMap_cons, List.length_append, entB_len, sload_cons, List.length_cons]
  omega
theorem pagesB_len (M : List SRec) : (pagesB M).length + 4 * M.length = 19 + sload M := by
 unfold pagesB
 have := ents_len M
 rw [List.length_append, List.length_append, beTail_len]
 have : magB.length = 15 := rfl
 omega
def pg (b : List UInt8) (i : Nat) : List UInt8 := (b.drop (256 * i)).take 256 ++ zs (256 - ((b.drop (256 * i)).take 256).length)
theorem pg_len (b : List UInt8) (i : Nat) : (pg b i).length = 256 := by
 unfold pg
 rw [List.length_append, zs_len]
 have : ((b.drop (256 * i)).take 256).length ≤ 256 := List.length_take_le _ _
 omega
def putsP (ms : List (List UInt8)) (b : List UInt8) (k : Nat) : List (Nat × List UInt8) := ((List.range k).map (fun i => (i, pg b i))).filter (fun p => p.1 == 0 || p.2 != (ms[p.1]?).getD [])
theorem putsP_succ (ms : List (List UInt8)) (b : List UInt8) (k : Nat) : putsP ms b (k + 1) = putsP ms b k ++ (if k = 0 ∨ pg b k ≠ (ms[k]?).getD [] then [(k, pg b k)] else []) := by
 unfold putsP
 rw [List.range_succ, List.map_append, List.filter_append]
 congr 1
 simp only [List.map_cons, List.map_nil, List.filter_cons, List.filter_nil]
 by_cases h : k = 0 ∨ pg b k ≠ (ms[k]?).getD []
 ·rw [if_pos h, if_pos (by rcases h with h | h <;> simp [h])]
 ·rw [if_neg h, if_neg (by simp only [not_or, Decidable.not_not] at h; simp [h.1, h.2])]
theorem putsP_mem {ms : List (List UInt8)} {b : List UInt8} {k : Nat} {p : Nat × List UInt8} (h : p ∈ putsP ms b k) : p.1 < k ∧ p.2 = pg b p.1 := by
 unfold putsP at h
 obtain ⟨i, hi, rfl⟩ := List.mem_map.1 (List.mem_filter.1 h).1
 exact ⟨List.mem_range.1 hi, rfl⟩
theorem putsP_len (ms : List (List UInt8)) (b : List UInt8) : ∀ k, (putsP ms b k).length ≤ k
 | 0 => by simp [putsP]
 | k + 1 => by
  rw [putsP_succ, List.length_append]
  have := putsP_len ms b k
  split <;> simp <;> omega
theorem putsP_last (ms : List (List UInt8)) (b : List UInt8) (i : Nat) : ∀ k, lastPut (putsP ms b k) i = if i < k ∧ (i = 0 ∨ pg b i ≠ (ms[i]?).getD []) then some (pg b i) else none
 | 0 => by simp [putsP, lastPut]
 | k + 1 => by
  have ih := putsP_last ms b i k
  rw [putsP_succ]
  by_cases h : k = 0 ∨ pg b k ≠ (ms[k]?).getD []
  ·rw [if_pos h, lastPut_snoc, ih]
   by_cases e : k = i
   ·subst e
    rw [if_pos rfl, if_pos ⟨by omega, h⟩]
   ·dsimp only
    rw [if_neg e]
    by_cases h2 : i < k ∧ (i = 0 ∨ pg b i ≠ (ms[i]?).getD [])
    ·rw [if_pos h2, if_pos ⟨by omega, h2.2⟩]
    ·rw [if_neg h2, if_neg (fun h3 => h2 ⟨by omega, h3.2⟩)]
  ·rw [if_neg h, List.append_nil, ih]
   by_cases h2 : i < k ∧ (i = 0 ∨ pg b i ≠ (ms[i]?).getD [])
   ·rw [if_pos h2, if_pos ⟨by omega, h2.2⟩]
   ·rw [if_neg h2, if_neg (fun h3 => by
     by_cases e : i = k
     ·subst e; exact h h3.2
     ·exact h2 ⟨by omega, h3.2⟩)]
theorem after_puts (ms : List (List UInt8)) (b : List UInt8) (k i : Nat) (hi : i < ms.length) : (after ms (putsP ms b k))[i]? = some (if i < k then pg b i else (ms[i]?).getD []) := by
 rw [after_get ms _ i hi, putsP_last]
 congr 1
 by_cases h : i < k
 ·rw [if_pos h]
  by_cases h2 : i = 0 ∨ pg b i ≠ (ms[i]?).getD []
  ·rw [if_pos ⟨h, h2⟩]; rfl
  ·rw [if_neg (fun h3 => h2 h3.2)]
   simp only [not_or, Decidable.not_not] at h2
   exact h2.2.symm
 ·rw [if_neg h, if_neg (fun h3 => h h3.1)]; rfl
def pageN (b : List UInt8) : Nat := (b.length + 255) / 256
theorem pages_flat (b : List UInt8) : ∀ k, (((List.range k).map (pg b)).flatten).take b.length = b.take (256 * k)
 | 0 => by simp
 | k + 1 => by
  have ih := pages_flat b k
  have hl : ∀ k, (((List.range k).map (pg b)).flatten).length = 256 * k := fun k => by
   induction k with
   | zero => rfl
   | succ k ih2 => rw [List.range_succ, List.map_append, List.flatten_append, List.length_append, ih2]; simp [pg_len]; omega
  rw [List.range_succ, List.map_append, List.flatten_append]
  simp only [List.map_cons, List.map_nil, List.flatten_cons, List.flatten_nil, List.append_nil]
  rw [List.take_append, ih, hl k]
  by_cases h : 256 * k ≤ b.length
  ·have e1 : (pg b k).take (b.length - 256 * k) = (b.drop (256 * k)).take 256 := by
    unfold pg
    by_cases h2 : b.length - 256 * k ≤ 256
    ·have e3 : (b.drop (256 * k)).take 256 = b.drop (256 * k) := List.take_of_length_le (by rw [List.length_drop]; exact h2)
     rw [e3, List.take_append_of_le_length (by rw [List.length_drop]; exact Nat.le_refl _), List.take_of_length_le (by rw [List.length_drop]; exact Nat.le_refl _)]
    ·have e3 : ((b.drop (256 * k)).take 256).length = 256 := by rw [List.length_take, List.length_drop]; omega
     rw [e3]
     simp only [Nat.sub_self]
     rw [show zs 0 = [] from rfl, List.append_nil, List.take_take, Nat.min_eq_right (by omega)]
   rw [e1, show 256 * (k + 1) = 256 * k + 256 by omega, List.take_add]
  ·rw [show b.length - 256 * k = 0 by omega, List.take_zero, List.append_nil, List.take_of_length_le (by omega), List.take_of_length_le (by omega)]
theorem take_flatten_of_get {xs ys : List (List UInt8)} (n : Nat) (h : ∀ i, i < n → xs[i]? = ys[i]?) : xs.take n = ys.take n := by
 apply List.ext_getElem?
 intro i
 rw [List.getElem?_take, List.getElem?_take]
 split
 ·exact h i (by assumption)
 ·rfl
theorem after_holds (ms : List (List UInt8)) (b : List UInt8) (hb : b.length ≤ 256 * ms.length) : (((after ms (putsP ms b (pageN b))).flatten).take b.length) = b := by
 obtain ⟨k, hk⟩ : ∃ k, pageN b = k := ⟨_, rfl⟩
 have hkb : b.length ≤ 256 * k := by unfold pageN at hk; omega
 have hkm : k ≤ ms.length := by unfold pageN at hk; omega
 rw [hk]
 have e1 : (after ms (putsP ms b k)).take k = (List.range k).map (pg b) := by
  have := take_flatten_of_get (xs := after ms (putsP ms b k)) (ys := (List.range k).map (pg b)) k (fun i hi => by
   rw [after_puts ms b k i (by omega), if_pos hi, List.getElem?_map, List.getElem?_range hi]
   rfl)
  rw [this, List.take_of_length_le (by simp)]
 have e2 : (after ms (putsP ms b k)).flatten = ((List.range k).map (pg b)).flatten ++ ((after ms (putsP ms b k)).drop k).flatten := by
  rw [← e1, ← List.flatten_append, List.take_append_drop]
 have hl : (((List.range k).map (pg b)).flatten).length = 256 * k := by
  clear e1 e2 hk hkb hkm hb
  induction k with
  | zero => rfl
  | succ k ih2 => rw [List.range_succ, List.map_append, List.flatten_append, List.length_append, ih2]; simp [pg_len]; omega
 rw [e2, List.take_append_of_le_length (by omega), pages_flat, List.take_of_length_le hkb]
theorem after_256 (ms : List (List UInt8)) (b : List UInt8) (k : Nat) (h : ∀ m ∈ ms, m.length = 256) : ∀ m ∈ after ms (putsP ms b k), m.length = 256 := by
 intro m hm
 obtain ⟨i, hi, rfl⟩ := List.getElem_of_mem hm
 rw [after_len] at hi
 have := after_puts ms b k i hi
 rw [List.getElem?_eq_getElem (by rw [after_len]; exact hi)] at this
 injection this with this
 rw [this]
 split
 ·exact pg_len _ _
 ·rw [List.getElem?_eq_getElem hi]
  exact h _ (List.getElem_mem hi)
theorem sput_le {P : List SRec} {x : Int} {b : List UInt8} (hP : Rising P) (h : ∀ q ∈ P, q.1 ≤ x) : sput P x b = sdel P x ++ [(x, b)] := by
 induction P with
 | nil => rfl
 | cons p P ih =>
  obtain ⟨h1, h2⟩ := List.pairwise_cons.1 hP
  have hp := h p (by simp)
  unfold sput
  by_cases e : p.1 = x
  ·have hn : P = [] := by
    cases P with
    | nil => rfl
    | cons q P =>
     have a1 := h1 q (by simp)
     have a2 := h q (by simp)
     omega
   subst hn
   rw [if_neg (by omega), if_pos e]
   simp [sdel, e]
  ·rw [if_pos (by omega), ih h2 (fun q hq => h q (by simp [hq]))]
   have : sdel (p :: P) x = p :: sdel P x := by simp [sdel, e]
   rw [this]
   rfl
theorem sput_gt {P : List SRec} {p : SRec} {x : Int} {b : List UInt8} (hP : Rising P) (h : ∀ q ∈ P, q.1 ≤ x) (hp : x < p.1) : sput (P ++ [p]) x b = sdel P x ++ [(x, b)] ++ [p] := by
 induction P with
 | nil =>
  show sput [p] x b = _
  unfold sput
  rw [if_neg (by omega), if_neg (by omega)]
  rfl
 | cons q P ih =>
  obtain ⟨h1, h2⟩ := List.pairwise_cons.1 hP
  have hq := h q (by simp)
  rw [List.cons_append]
  unfold sput
  by_cases e : q.1 = x
  ·have hn : P = [] := by
    cases P with
    | nil => rfl
    | cons z P =>
     have a1 := h1 z (by simp)
     have a2 := h z (by simp)
     omega
   subst hn
   rw [if_neg (by omega), if_pos e]
   simp [sdel, e]
  ·rw [if_pos (by omega), ih h2 (fun z hz => h z (by simp [hz]))]
   have : sdel (q :: P) x = q :: sdel P x := by simp [sdel, e]
   rw [this]
   rfl
theorem sput_more {P : List SRec} {p : SRec} {x : Int} {b : List UInt8} (hP : Rising (P ++ [p])) (h : ∃ q ∈ P, x < q.1) : sput (P ++ [p]) x b = sput P x b ++ [p] ∧ x < p.1 := by
 induction P with
 | nil => obtain ⟨q, hq, _⟩ := h; cases hq
 | cons q P ih =>
  rw [List.cons_append] at hP ⊢
  obtain ⟨h1, h2⟩ := List.pairwise_cons.1 hP
  have hqp := h1 p (by simp)
  unfold sput
  by_cases hlt : q.1 < x
  ·rw [if_pos hlt, if_pos hlt]
   obtain ⟨z, hz, hzx⟩ := h
   rcases List.mem_cons.1 hz with rfl | hz
   ·omega
   ·obtain ⟨e1, e2⟩ := ih h2 ⟨z, hz, hzx⟩
    rw [e1]
    exact ⟨rfl, e2⟩
  ·rw [if_neg hlt, if_neg hlt]
   exact ⟨by split <;> rfl, by omega⟩
theorem sdel_snoc (P : List SRec) (p : SRec) (x : Int) : sdel (P ++ [p]) x = sdel P x ++ (if p.1 = x then [] else [p]) := by
 unfold sdel
 rw [List.filter_append]
 congr 1
 by_cases e : p.1 = x
 ·simp [e]
 ·simp [e]
def schg (M : List SRec) (x : Int) (drop : Bool) (b : List UInt8) : List SRec := if drop then sdel M x else sput M x b
theorem schg_rising {M : List SRec} (h : Rising M) (x : Int) (drop : Bool) (b : List UInt8) : Rising (schg M x drop b) := by
 unfold schg
 split
 ·exact h.del x
 ·exact h.put x b
structure ChgI (M : List SRec) (x : Int) (drop : Bool) (b : List UInt8) (i : Nat) (done : Bool) (L : List SRec) : Prop where
 le : i ≤ M.length
 no : done = false → drop = false ∧ (∀ q ∈ M.take i, q.1 ≤ x) ∧ L = sdel (M.take i) x
 yes : done = true → L = schg (M.take i) x drop b ∧ (drop = false → ∃ q ∈ M.take i, x < q.1)
theorem ChgI.start (M : List SRec) (x : Int) (drop : Bool) (b : List UInt8) : ChgI M x drop b 0 drop [] := by
 refine ⟨Nat.zero_le _, fun h => ⟨h, by simp, by simp [sdel]⟩, fun h => ⟨?_, fun h2 => by rw [h] at h2; cases h2⟩⟩
 rw [h]
 simp [schg, sdel]
theorem take_snoc {α : Type} {M : List α} {i : Nat} {p : α} (h : M[i]? = some p) : M.take (i + 1) = M.take i ++ [p] := by
 rw [List.take_add_one, h]; rfl
theorem Rising.take {M : List SRec} (h : Rising M) (i : Nat) : Rising (M.take i) := List.Pairwise.sublist (List.take_sublist i M) h
theorem ChgI.ins {M : List SRec} {x : Int} {drop : Bool} {b : List UInt8} {i : Nat} {L : List SRec} (hM : Rising M) (h : ChgI M x drop b i false L) {p : SRec} (hp : M[i]? = some p) (hx : x < p.1) : ChgI M x drop b (i + 1) true (L ++ [(x, b)] ++ [p]) := by
 obtain ⟨h1, h2, h3⟩ := h.no rfl
 have hi := (List.getElem?_eq_some_iff.1 hp).1
 refine ⟨hi, fun e => (by cases e), fun _ => ⟨?_, fun _ => ⟨p, by rw [take_snoc hp]; simp, hx⟩⟩⟩
 rw [h1, take_snoc hp, h3]
 show _ = sput _ _ _
 rw [sput_gt (hM.take i) h2 hx]
theorem ChgI.keep {M : List SRec} {x : Int} {drop : Bool} {b : List UInt8} {i : Nat} {L : List SRec} (h : ChgI M x drop b i false L) {p : SRec} (hp : M[i]? = some p) (hx : p.1 ≤ x) : ChgI M x drop b (i + 1) false (L ++ (if p.1 = x then [] else [p])) := by
 obtain ⟨h1, h2, h3⟩ := h.no rfl
 have hi := (List.getElem?_eq_some_iff.1 hp).1
 refine ⟨hi, fun _ => ⟨h1, ?_, ?_⟩, fun e => (by cases e)⟩
 ·rw [take_snoc hp]
  intro q hq
  rcases List.mem_append.1 hq with hq | hq
  ·exact h2 q hq
  ·simp at hq; rw [hq]; exact hx
 ·rw [take_snoc hp, sdel_snoc, h3]
theorem ChgI.over {M : List SRec} {x : Int} {drop : Bool} {b : List UInt8} {i : Nat} {L : List SRec} (hM : Rising M) (h : ChgI M x drop b i true L) {p : SRec} (hp : M[i]? = some p) : ChgI M x drop b (i + 1) true (L ++ (if p.1 = x then [] else [p])) := by
 obtain ⟨h3, h4⟩ := h.yes rfl
 have hi := (List.getElem?_eq_some_iff.1 hp).1
 refine ⟨hi, fun e => (by cases e), fun _ => ⟨?_, fun hd => ?_⟩⟩
 ·rw [take_snoc hp, h3]
  cases drop with
  | true => exact (sdel_snoc _ _ _).symm
  | false =>
   obtain ⟨e1, e2⟩ := sput_more (b := b) (by rw [← take_snoc hp]; exact hM.take (i + 1)) (h4 rfl)
   show _ = sput _ _ _
   rw [e1, if_neg (by omega)]
   rfl
 ·obtain ⟨q, hq, hx⟩ := h4 hd
  exact ⟨q, by rw [take_snoc hp]; simp [hq], hx⟩
theorem ChgI.fin {M : List SRec} {x : Int} {drop : Bool} {b : List UInt8} {done : Bool} {L : List SRec} (hM : Rising M) (h : ChgI M x drop b M.length done L) : (if done then L else L ++ [(x, b)]) = schg M x drop b := by
 cases done with
 | true =>
  have := (h.yes rfl).1
  rw [List.take_length] at this
  exact this
 | false =>
  obtain ⟨h1, h2, h3⟩ := h.no rfl
  rw [List.take_length] at h2 h3
  rw [h1]
  show L ++ [(x, b)] = sput M x b
  rw [sput_le hM h2, h3]
end Go.Proofs.YtgjnmpjimhbfgaaGreatDoor
