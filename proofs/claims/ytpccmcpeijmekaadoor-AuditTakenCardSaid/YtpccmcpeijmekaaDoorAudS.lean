/-
  Logs put together out of a chain's lines, plainly: where they are right.
-/
import Derived.Test.YtpccmcpeijmekaaDoorAud12
namespace Go.Proofs.YtpccmcpeijmekaaDoor

/-- The lines of a log at these places. -/
def sel (lg : List UInt8) (idx : List Nat) : List UInt8 := (idx.map (lnAt lg)).flatten
theorem sel_snoc (lg : List UInt8) (idx : List Nat) (k : Nat) : sel lg (idx ++ [k]) = sel lg idx ++ lnAt lg k := by simp [sel]
theorem lnAt_len (lg : List UInt8) (q i : Nat) (h : lg.length = q * 52) (hi : i < q) : (lnAt lg i).length = 52 := by
  unfold lnAt
  rw [List.length_take, List.length_drop]
  omega
theorem flat52_len (rows : List (List UInt8)) (h : ∀ r ∈ rows, r.length = 52) : rows.flatten.length = rows.length * 52 := by
  induction rows with
  | nil => rfl
  | cons r rows ih =>
    rw [List.flatten_cons, List.length_append, h r (by simp), ih (fun r hr => h r (by simp [hr])), List.length_cons]
    omega
theorem flat52_drop (rows : List (List UInt8)) (h : ∀ r ∈ rows, r.length = 52) (p : Nat) : rows.flatten.drop (52 * p) = (rows.drop p).flatten := by
  induction p generalizing rows with
  | zero => simp
  | succ p ih =>
    cases rows with
    | nil => simp
    | cons r rows =>
      rw [List.flatten_cons, List.drop_succ_cons, ← ih rows (fun r hr => h r (by simp [hr]))]
      have h1 := h r (by simp)
      rw [show 52 * (p + 1) = r.length + 52 * p by omega, List.drop_append]
      simp
theorem flat52_take (rows : List (List UInt8)) (h : ∀ r ∈ rows, r.length = 52) (p : Nat) : rows.flatten.take (52 * p) = (rows.take p).flatten := by
  induction p generalizing rows with
  | zero => simp
  | succ p ih =>
    cases rows with
    | nil => simp
    | cons r rows =>
      rw [List.flatten_cons, List.take_succ_cons, List.flatten_cons, ← ih rows (fun r hr => h r (by simp [hr]))]
      have h1 := h r (by simp)
      rw [show 52 * (p + 1) = r.length + 52 * p by omega, List.take_append, List.take_of_length_le (by omega)]
      simp
theorem flat52_ln (rows : List (List UInt8)) (h : ∀ r ∈ rows, r.length = 52) (p : Nat) (r : List UInt8) (hr : rows[p]? = some r) : lnAt rows.flatten p = r := by
  unfold lnAt
  rw [flat52_drop rows h]
  have hp := (List.getElem?_eq_some_iff.1 hr).1
  have hr2 := (List.getElem?_eq_some_iff.1 hr).2
  rw [List.drop_eq_getElem_cons hp, List.flatten_cons, hr2]
  have h1 := h r (by rw [← hr2]; exact List.getElem_mem hp)
  rw [List.take_append_of_le_length (by omega), List.take_of_length_le (by omega)]
section
variable (es : List Ent) (hok : ∀ e ∈ es, e.ok) (hn : es.length ≤ 1000) (idx : List Nat) (hidx : ∀ x ∈ idx, x < es.length)
include hok hn hidx
theorem sel_rows : ∀ r ∈ idx.map (lnAt (chainOf (rof 3) es)), r.length = 52 := by
  intro r hr
  obtain ⟨x, hx, rfl⟩ := List.mem_map.1 hr
  exact lnAt_len _ es.length x (chain_good es hok hn).1 (hidx x hx)
theorem sel_ln (p x : Nat) (hp : idx[p]? = some x) : lnAt (sel (chainOf (rof 3) es) idx) p = lnAt (chainOf (rof 3) es) x :=
  flat52_ln _ (sel_rows es hok hn idx hidx) p _ (by rw [List.getElem?_map, hp]; rfl)
theorem sel_good : GoodLog (sel (chainOf (rof 3) es) idx) idx.length := by
  refine ⟨by unfold sel; rw [flat52_len _ (sel_rows es hok hn idx hidx), List.length_map], fun i hi => ?_⟩
  have hx := List.getElem?_eq_getElem hi
  rw [sel_ln es hok hn idx hidx i _ hx]
  exact (chain_good es hok hn).2 _ (hidx _ (List.getElem_mem hi))
theorem sel_wrong (hl : idx.length ≤ 1000) (p x : Nat) (hp : idx[p]? = some x) (hne : x ≠ p) : lnAt (sel (chainOf (rof 3) es) idx) p ≠ wantAt (sel (chainOf (rof 3) es) idx) p := by
  intro h
  have hx : x < es.length := hidx x (List.mem_of_getElem? hp)
  have hpl := (List.getElem?_eq_some_iff.1 hp).1
  rw [sel_ln es hok hn idx hidx p x hp, chainOf_line (H := rof 3) rof3_len es x _ (List.getElem?_eq_getElem hx)] at h
  unfold wantAt aline at h
  exact hne (hb_seq x p _ _ _ _ (by omega) (by omega) h)
theorem sel_right (p : Nat) (hp : ∀ t, t ≤ p → idx[t]? = some t) : lnAt (sel (chainOf (rof 3) es) idx) p = wantAt (sel (chainOf (rof 3) es) idx) p := by
  have h0 := hp p (Nat.le_refl _)
  have hx : p < es.length := hidx p (List.mem_of_getElem? h0)
  have hpl := (List.getElem?_eq_some_iff.1 h0).1
  have h1 := sel_ln es hok hn idx hidx p p h0
  have h2 : (sel (chainOf (rof 3) es) idx).take (52 * p) = (chainOf (rof 3) es).take (52 * p) := by
    have hall : ∀ r ∈ (List.range es.length).map (lnAt (chainOf (rof 3) es)), r.length = 52 := sel_rows es hok hn (List.range es.length) (fun x hx => List.mem_range.1 hx)
    have hc : chainOf (rof 3) es = ((List.range es.length).map (lnAt (chainOf (rof 3) es))).flatten := by
      have hlen := chainOf_len (H := rof 3) rof3_len es
      apply List.ext_getElem?
      intro i
      rcases Nat.lt_or_ge i (chainOf (rof 3) es).length with hi | hi
      · have e1 : ∀ l : List UInt8, l[i]? = (lnAt l (i / 52))[i % 52]? := by
          intro l
          unfold lnAt
          rw [List.getElem?_take, if_pos (Nat.mod_lt _ (by decide)), List.getElem?_drop]
          congr 1
          omega
        rw [e1 (chainOf (rof 3) es), e1 (List.flatten _), flat52_ln _ hall (i / 52) (lnAt (chainOf (rof 3) es) (i / 52)) (by rw [List.getElem?_map, List.getElem?_range (by omega)]; rfl)]
      · rw [List.getElem?_eq_none hi, List.getElem?_eq_none]
        rw [flat52_len _ hall, List.length_map, List.length_range]
        omega
    have hs : sel (chainOf (rof 3) es) idx = (idx.map (lnAt (chainOf (rof 3) es))).flatten := rfl
    have e2 : (chainOf (rof 3) es).take (52 * p) = (((List.range es.length).map (lnAt (chainOf (rof 3) es))).take p).flatten := by
      rw [← flat52_take _ hall p, ← hc]
    rw [e2, hs, flat52_take _ (sel_rows es hok hn idx hidx) p]
    congr 1
    apply List.ext_getElem?
    intro t
    rw [List.getElem?_take, List.getElem?_take]
    by_cases ht : t < p
    · rw [if_pos ht, if_pos ht, List.getElem?_map, List.getElem?_map, hp t (by omega), List.getElem?_range (by omega)]
    · rw [if_neg ht, if_neg ht]
  have h3 := (chain_at es hok hn p _ (List.getElem?_eq_getElem hx)).1
  unfold wantAt at h3 ⊢
  rw [h1, h2]
  exact h3
theorem sel_rightTo (hl : idx.length ≤ 1000) (p : Nat) (hp : p ≤ idx.length) (h1 : ∀ t, t < p → idx[t]? = some t) (h2 : p < idx.length → ∃ x, idx[p]? = some x ∧ x ≠ p) : RightTo (sel (chainOf (rof 3) es) idx) idx.length p := by
  refine ⟨hp, fun i hi => sel_right es hok hn idx hidx i (fun t ht => h1 t (by omega)), fun h => ?_⟩
  obtain ⟨x, hx, hne⟩ := h2 h
  exact sel_wrong es hok hn idx hidx hl p x hx hne
end
/-- All places up to k but i. -/
def lessIdx (i : Nat) : Nat → List Nat
  | 0 => []
  | k + 1 => lessIdx i k ++ if k = i then [] else [k]
theorem lessIdx_len (i k : Nat) : (lessIdx i k).length = if i < k then k - 1 else k := by
  induction k with
  | zero => simp [lessIdx]
  | succ k ih =>
    unfold lessIdx
    rw [List.length_append, ih]
    by_cases h : k = i
    · subst h; simp
    · rw [if_neg h]
      by_cases h2 : i < k
      · rw [if_pos h2, if_pos (by omega)]; simp; omega
      · rw [if_neg h2, if_neg (by omega)]; simp
theorem lessIdx_at (i k t : Nat) (ht : t < (lessIdx i k).length) : (lessIdx i k)[t]? = some (if t < i then t else t + 1) := by
  induction k with
  | zero => simp [lessIdx] at ht
  | succ k ih =>
    unfold lessIdx at ht ⊢
    rcases Nat.lt_or_ge t (lessIdx i k).length with h | h
    · rw [List.getElem?_append_left h, ih h]
    · rw [List.getElem?_append_right h]
      rw [List.length_append] at ht
      have hl := lessIdx_len i k
      by_cases hk : k = i
      · rw [if_pos hk] at ht; simp at ht; omega
      · rw [if_neg hk] at ht ⊢
        simp at ht
        obtain rfl : t = (lessIdx i k).length := by omega
        rw [Nat.sub_self]
        simp only [List.getElem?_cons_zero]
        congr 1
        rw [hl]
        split <;> split <;> omega
theorem lessIdx_lt (i k : Nat) : ∀ x ∈ lessIdx i k, x < k := by
  induction k with
  | zero => intro x hx; simp [lessIdx] at hx
  | succ k ih =>
    intro x hx
    unfold lessIdx at hx
    rcases List.mem_append.1 hx with h | h
    · have := ih x h; omega
    · split at h <;> simp at h; omega
/-- All places up to k, i and j changed. -/
def swapAt (i j t : Nat) : Nat := if t = i then j else if t = j then i else t
def swapIdx (i j k : Nat) : List Nat := (List.range k).map (swapAt i j)
theorem swapIdx_succ (i j k : Nat) : swapIdx i j (k + 1) = swapIdx i j k ++ [swapAt i j k] := by simp [swapIdx, List.range_succ]
theorem swapIdx_at (i j k t : Nat) (ht : t < k) : (swapIdx i j k)[t]? = some (swapAt i j t) := by simp [swapIdx, ht]
theorem swapIdx_len (i j k : Nat) : (swapIdx i j k).length = k := by simp [swapIdx]
theorem swapIdx_lt (i j k : Nat) (hi : i < k) (hj : j < k) : ∀ x ∈ swapIdx i j k, x < k := by
  intro x hx
  obtain ⟨t, ht, rfl⟩ := List.mem_map.1 hx
  have := List.mem_range.1 ht
  unfold swapAt
  split
  · omega
  · split <;> omega
end Go.Proofs.YtpccmcpeijmekaaDoor
