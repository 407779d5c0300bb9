/-
  DER plainly: nodes, which may be, how they are written and read. No program in sight.
  DER plainly: writing and reading.
-/

namespace Go.Proofs.Ytgkhhinjdojbhaa

/-- A node: its tag, its bytes, its kids. -/
inductive Nd where | mk (tag : Int) (b : List UInt8) (kids : List Nd)
def Nd.tag : Nd → Int | .mk t _ _ => t
def Nd.b : Nd → List UInt8 | .mk _ b _ => b
def Nd.kids : Nd → List Nd | .mk _ _ k => k
theorem Nd.eta (n : Nd) : n = .mk n.tag n.b n.kids := by cases n; rfl

mutual
def Nd.size : Nd → Nat | .mk _ _ ks => 1 + sizeAll ks
def sizeAll : List Nd → Nat | [] => 0 | k :: ks => k.size + sizeAll ks
end
theorem Nd.size_pos (n : Nd) : 1 ≤ n.size := by cases n; simp [Nd.size]
theorem sizeAll_le {l : List Nd} {k : Nd} (h : k ∈ l) : k.size ≤ sizeAll l := by
  induction l with
  | nil => cases h
  | cons x l ih =>
    rcases List.mem_cons.1 h with e | h
    · subst e; simp [sizeAll]
    · have := ih h; simp only [sizeAll]; omega
/-- Recursion over a node and its kids. -/
theorem Nd.rec' {P : Nd → Prop} (h : ∀ t b ks, (∀ k ∈ ks, P k) → P (.mk t b ks)) (n : Nd) : P n := by
  have : ∀ m (n : Nd), n.size ≤ m → P n := by
    intro m
    induction m with
    | zero => intro n hn; have := n.size_pos; omega
    | succ m ih =>
      intro n hn
      cases n with
      | mk t b ks =>
        refine h t b ks (fun k hk => ih k ?_)
        have := sizeAll_le hk
        simp only [Nd.size] at hn
        omega
  exact this n.size n (Nat.le_refl _)

/-- Numbers to the base 128, as the program looks at them: may another one begin here?, none says no. -/
def nameGo (begins : Bool) : List UInt8 → Option Bool
  | [] => some begins
  | x :: l => if begins && x == 128 then none else nameGo (decide (x < 128)) l
def nameOk (b : List UInt8) : Bool := match nameGo true b with | none => false | some e => decide (0 < b.length) && e
/-- May the bytes of a node be? -/
def plainOk (tag : Int) (b : List UInt8) : Bool :=
  if tag = 2 then decide (0 < b.length) && decide (b.getD 0 0 < 128) && (decide (0 < b.getD 0 0) || decide (b.length = 1) || decide (128 ≤ b.getD 1 0))
  else if tag = 3 then decide (0 < b.length) && decide (b.getD 0 0 = 0)
  else if tag = 4 then true
  else if tag = 5 then decide (b.length = 0)
  else if tag = 6 then nameOk b
  else false

mutual
/-- May it be, at so many steps from the deepest? -/
def Nd.ok : Nat → Nd → Bool
  | 0, _ => false
  | d + 1, .mk tag b ks => if tag = 48 then decide (b.length = 0) && okAll d ks else decide (ks.length = 0) && plainOk tag b
def okAll : Nat → List Nd → Bool
  | _, [] => true
  | d, k :: ks => k.ok d && okAll d ks
end
theorem okAll_mem {d : Nat} {l : List Nd} (h : okAll d l = true) {k : Nd} (hk : k ∈ l) : k.ok d = true := by
  induction l with
  | nil => cases hk
  | cons x l ih =>
    simp only [okAll, Bool.and_eq_true] at h
    rcases List.mem_cons.1 hk with e | hk
    · subst e; exact h.1
    · exact ih h.2 hk

mutual
/-- The program's 'may': the answer, and how many nodes there may be yet. d: so many steps to the deepest. -/
def Nd.mayW : Nat → Int → Nd → Bool × Int
  | d, left, .mk tag b ks =>
    if left - 1 < 0 then (false, left - 1) else
    match d with
    | 0 => (false, left - 1)
    | d + 1 => if tag = 48 then (if 0 < b.length then (false, left - 1) else mayAll d (left - 1) ks) else (decide (ks.length = 0) && plainOk tag b, left - 1)
def mayAll : Nat → Int → List Nd → Bool × Int
  | _, left, [] => (true, left)
  | d, left, k :: ks => if (k.mayW d left).1 then mayAll d (k.mayW d left).2 ks else (false, (k.mayW d left).2)
end
mutual
theorem Nd.mayW_spec : ∀ (n : Nd) (d : Nat) (left : Int), 0 ≤ left → ((n.mayW d left).1 = true ↔ n.ok d = true ∧ (n.size : Int) ≤ left) ∧ ((n.mayW d left).1 = true → (n.mayW d left).2 = left - n.size)
  | .mk tag b ks, d, left, h => by
    unfold Nd.mayW
    by_cases h1 : left - 1 < 0
    · rw [if_pos h1]
      refine ⟨⟨fun h => by simp at h, fun h => ?_⟩, fun h => by simp at h⟩
      have := (Nd.mk tag b ks).size_pos
      omega
    · rw [if_neg h1]
      cases d with
      | zero => simp [Nd.ok]
      | succ d =>
        simp only
        by_cases h2 : tag = 48
        · rw [if_pos h2]
          by_cases h3 : 0 < b.length
          · rw [if_pos h3]
            refine ⟨⟨fun h => by simp at h, fun h => ?_⟩, fun h => by simp at h⟩
            have h4 := h.1
            rw [Nd.ok, if_pos h2] at h4
            simp only [Bool.and_eq_true, decide_eq_true_eq] at h4
            omega
          · rw [if_neg h3]
            have h4 : b.length = 0 := by omega
            obtain ⟨i1, i2⟩ := mayAll_spec ks d (left - 1) (by omega)
            rw [Nd.ok, if_pos h2, Nd.size]
            simp only [h4, decide_true, Bool.true_and]
            refine ⟨i1.trans ⟨fun h => ⟨h.1, by omega⟩, fun h => ⟨h.1, by omega⟩⟩, fun h => ?_⟩
            rw [i2 h]; omega
        · rw [if_neg h2, Nd.ok, if_neg h2]
          simp only
          refine ⟨⟨fun h => ⟨h, ?_⟩, fun h => h.1⟩, fun h => ?_⟩
          all_goals
            simp only [Bool.and_eq_true, decide_eq_true_eq] at h
            have hk : ks = [] := List.eq_nil_of_length_eq_zero h.1
            subst hk
            simp [Nd.size, sizeAll]
          omega
theorem mayAll_spec : ∀ (ks : List Nd) (d : Nat) (left : Int), 0 ≤ left → ((mayAll d left ks).1 = true ↔ okAll d ks = true ∧ (sizeAll ks : Int) ≤ left) ∧ ((mayAll d left ks).1 = true → (mayAll d left ks).2 = left - sizeAll ks)
  | [], d, left, h => by simp [mayAll, okAll, sizeAll, h]
  | k :: ks, d, left, h => by
    obtain ⟨i1, i2⟩ := k.mayW_spec d left h
    unfold mayAll
    by_cases hc : (k.mayW d left).1 = true
    · rw [if_pos hc]
      have e := i2 hc
      have hs := (i1.1 hc).2
      obtain ⟨j1, j2⟩ := mayAll_spec ks d (k.mayW d left).2 (by omega)
      rw [okAll, sizeAll]
      have ho := (i1.1 hc).1
      simp only [ho, Bool.true_and]
      rw [e] at j1 j2 ⊢
      refine ⟨j1.trans ⟨fun h => ⟨h.1, by omega⟩, fun h => ⟨h.1, by omega⟩⟩, fun h => ?_⟩
      rw [j2 h]; omega
    · rw [if_neg hc]
      refine ⟨⟨fun h => by simp at h, fun h => ?_⟩, fun h => by simp at h⟩
      exfalso
      refine hc (i1.2 ⟨?_, ?_⟩)
      · have := h.1; rw [okAll, Bool.and_eq_true] at this; exact this.1
      · have := h.2; rw [sizeAll] at this; omega
end
theorem mayW_low : ∀ (n : Nd) (d : Nat) (left : Int), 0 ≤ left → -1 ≤ (n.mayW d left).2 ∧ (n.mayW d left).2 ≤ left ∧ ((n.mayW d left).1 = true → 0 ≤ (n.mayW d left).2) := by
  intro n
  refine Nd.rec' (P := fun n => ∀ (d : Nat) (left : Int), 0 ≤ left → -1 ≤ (n.mayW d left).2 ∧ (n.mayW d left).2 ≤ left ∧ ((n.mayW d left).1 = true → 0 ≤ (n.mayW d left).2)) ?_ n
  intro tag b ks ih d left h
  unfold Nd.mayW
  by_cases h1 : left - 1 < 0
  · rw [if_pos h1]; refine ⟨by simp only []; omega, by simp only []; omega, fun h => by simp at h⟩
  · rw [if_neg h1]
    cases d with
    | zero => refine ⟨by simp only []; omega, by simp only []; omega, fun h => by simp at h⟩
    | succ d =>
      simp only
      have hall : ∀ (l : List Nd), (∀ k ∈ l, k ∈ ks) → ∀ left : Int, 0 ≤ left → -1 ≤ (mayAll d left l).2 ∧ (mayAll d left l).2 ≤ left ∧ ((mayAll d left l).1 = true → 0 ≤ (mayAll d left l).2) := by
        intro l
        induction l with
        | nil => intro _ left h; simp [mayAll, h]; omega
        | cons k l ihl =>
          intro hm left h
          obtain ⟨a1, a2, a3⟩ := ih k (hm k (by simp)) d left h
          unfold mayAll
          by_cases hc : (k.mayW d left).1 = true
          · rw [if_pos hc]
            obtain ⟨b1, b2, b3⟩ := ihl (fun x hx => hm x (by simp [hx])) (k.mayW d left).2 (a3 hc)
            exact ⟨b1, by omega, b3⟩
          · rw [if_neg hc]
            exact ⟨a1, a2, fun h => by simp at h⟩
      split
      · split
        · refine ⟨by simp only []; omega, by simp only []; omega, fun h => by simp at h⟩
        · obtain ⟨a1, a2, a3⟩ := hall ks (fun _ h => h) (left - 1) (by omega)
          exact ⟨a1, by omega, a3⟩
      · exact ⟨by simp only []; omega, by simp only []; omega, fun _ => by simp only []; omega⟩
end Go.Proofs.Ytgkhhinjdojbhaa
namespace Go.Proofs.Ytgkhhinjdojbhaa

/-- The value of bytes, the highest first. -/
def beVal (l : List UInt8) : Nat := l.foldl (fun a x => a * 256 + x.toNat) 0
theorem beVal_nil : beVal [] = 0 := rfl
theorem beVal_snoc (l : List UInt8) (x : UInt8) : beVal (l ++ [x]) = beVal l * 256 + x.toNat := by simp [beVal]
theorem beVal_fold (l : List UInt8) : ∀ a, l.foldl (fun a x => a * 256 + x.toNat) a = a * 256 ^ l.length + beVal l := by
  induction l with
  | nil => intro a; simp [beVal]
  | cons x l ih =>
    intro a
    unfold beVal
    rw [List.foldl_cons, List.foldl_cons, ih, ih (0 * 256 + x.toNat), List.length_cons, Nat.pow_succ, Nat.zero_mul, Nat.zero_add, Nat.add_mul, Nat.mul_assoc, Nat.mul_comm 256, Nat.add_assoc]
theorem beVal_cons (x : UInt8) (l : List UInt8) : beVal (x :: l) = x.toNat * 256 ^ l.length + beVal l := by
  have := beVal_fold l x.toNat
  unfold beVal
  rw [List.foldl_cons, Nat.zero_mul, Nat.zero_add, this]
  rfl
theorem beVal_lt (l : List UInt8) : beVal l < 256 ^ l.length := by
  induction l with
  | nil => simp [beVal]
  | cons x l ih =>
    have hx := x.toNat_lt
    rw [beVal_cons, List.length_cons, Nat.pow_succ]
    have h1 : (x.toNat + 1) * 256 ^ l.length ≤ 256 * 256 ^ l.length := Nat.mul_le_mul_right _ (by omega)
    rw [Nat.add_mul, Nat.one_mul] at h1
    rw [Nat.mul_comm (256 ^ l.length)]
    omega
theorem byte_id (x : UInt8) : UInt8.ofNat (x.toNat % 256) = x := by
  have hx := x.toNat_lt
  rw [Nat.mod_eq_of_lt hx]; exact UInt8.ofNat_toNat
theorem byte_nat (n : Nat) : (UInt8.ofNat (n % 256)).toNat = n % 256 := by
  rw [UInt8.toNat_ofNat']; exact Nat.mod_mod _ _
theorem head_app {l l' : List UInt8} (h : l ≠ []) : (l ++ l').head? = l.head? := by cases l with | nil => exact absurd rfl h | cons x l => rfl
theorem snoc_ind {P : List UInt8 → Prop} (h0 : P []) (h1 : ∀ l x, P l → P (l ++ [x])) (l : List UInt8) : P l := by
  have : ∀ l : List UInt8, P l.reverse := by
    intro l
    induction l with
    | nil => exact h0
    | cons x l ih => rw [List.reverse_cons]; exact h1 _ _ ih
  have := this l.reverse
  rwa [List.reverse_reverse] at this
/-- A number in as few bytes as may be. -/
def beMin (n : Nat) : List UInt8 := if h : n = 0 then [] else beMin (n / 256) ++ [UInt8.ofNat (n % 256)]
termination_by n
decreasing_by omega
theorem beMin_zero : beMin 0 = [] := by unfold beMin; rfl
theorem beMin_pos {n : Nat} (h : n ≠ 0) : beMin n = beMin (n / 256) ++ [UInt8.ofNat (n % 256)] := by rw [beMin, dif_neg h]
theorem beVal_beMin (n : Nat) : beVal (beMin n) = n := by
  induction n using Nat.strongRecOn with
  | _ n ih =>
    by_cases h : n = 0
    · subst h; rw [beMin_zero]; rfl
    · rw [beMin_pos h, beVal_snoc, ih _ (by omega), byte_nat]; omega
theorem beMin_head (n : Nat) : (beMin n).head? ≠ some 0 := by
  induction n using Nat.strongRecOn with
  | _ n ih =>
    by_cases h : n = 0
    · subst h; rw [beMin_zero]; simp
    · rw [beMin_pos h]
      by_cases h2 : n / 256 = 0
      · rw [h2, beMin_zero]
        intro e
        simp only [List.nil_append, List.head?_cons, Option.some.injEq] at e
        have := congrArg UInt8.toNat e
        rw [byte_nat] at this
        simp at this
        omega
      · have h3 : beMin (n / 256) ≠ [] := by rw [beMin_pos h2]; simp
        rw [head_app h3]
        exact ih _ (by omega)
theorem beMin_beVal : ∀ (l : List UInt8), l.head? ≠ some 0 → beMin (beVal l) = l := by
  intro l
  refine snoc_ind (P := fun l => l.head? ≠ some 0 → beMin (beVal l) = l) ?_ ?_ l
  · intro _; rw [beVal_nil, beMin_zero]
  · intro l x ih h
    have hx := x.toNat_lt
    rw [beVal_snoc]
    by_cases h0 : l = []
    · subst h0
      have hx0 : x.toNat ≠ 0 := by
        intro e
        refine h ?_
        have : x = 0 := UInt8.toNat_inj.1 (by rw [e]; rfl)
        rw [this]; rfl
      rw [beVal_nil, Nat.zero_mul, Nat.zero_add, beMin_pos hx0, show x.toNat / 256 = 0 by omega, beMin_zero, byte_id]
    · rw [head_app h0] at h
      have hl := ih h
      have hne : beVal l ≠ 0 := by
        intro e; rw [e, beMin_zero] at hl; exact h0 hl.symm
      rw [beMin_pos (by omega), show (beVal l * 256 + x.toNat) / 256 = beVal l by omega, hl, show (beVal l * 256 + x.toNat) % 256 = x.toNat % 256 by omega, byte_id]
theorem beMin_len_le {n k : Nat} (h : n < 256 ^ k) : (beMin n).length ≤ k := by
  induction k generalizing n with
  | zero => simp at h; subst h; rw [beMin_zero]; simp
  | succ k ih =>
    by_cases h0 : n = 0
    · subst h0; rw [beMin_zero]; simp
    · rw [beMin_pos h0, List.length_append, List.length_singleton]
      have := ih (n := n / 256) (by rw [Nat.pow_succ] at h; omega)
      omega
theorem beMin_len_pos {n : Nat} (h : n ≠ 0) : 1 ≤ (beMin n).length := by rw [beMin_pos h, List.length_append, List.length_singleton]; omega

/-- A length, as it is written. -/
def lenB (n : Nat) : List UInt8 := if n < 128 then [UInt8.ofNat n] else UInt8.ofNat (128 + (beMin n).length) :: beMin n
def byteI (t : Int) : UInt8 := UInt8.ofNat (t % 256).toNat
def hdr (tag : Int) (b : List UInt8) : List UInt8 := byteI tag :: (lenB b.length ++ b)
mutual
def Nd.enc : Nd → List UInt8 | .mk tag b ks => hdr tag (if tag = 48 then encAll ks else b)
def encAll : List Nd → List UInt8 | [] => [] | k :: ks => k.enc ++ encAll ks
end
theorem encAll_append (a b : List Nd) : encAll (a ++ b) = encAll a ++ encAll b := by
  induction a with
  | nil => rfl
  | cons x a ih => rw [List.cons_append, encAll, encAll, ih, List.append_assoc]
theorem lenB_pos (n : Nat) : 1 ≤ (lenB n).length := by unfold lenB; split <;> simp
theorem hdr_len (tag : Int) (b : List UInt8) : (hdr tag b).length = 1 + ((lenB b.length).length + b.length) := by unfold hdr; rw [List.length_cons, List.length_append]; omega
theorem lenB_le {n : Nat} (h : n < 16777216) : (lenB n).length ≤ 4 := by
  unfold lenB
  split
  · simp
  · have := beMin_len_le (n := n) (k := 3) (by omega)
    rw [List.length_cons]; omega
theorem encAll_mem {l : List Nd} {k : Nd} (h : k ∈ l) : k.enc.length ≤ (encAll l).length := by
  induction l with
  | nil => cases h
  | cons x l ih =>
    rw [encAll, List.length_append]
    rcases List.mem_cons.1 h with e | h
    · subst e; omega
    · have := ih h; omega
/-- Tag and length, read: what is held, what is behind it. -/
def headW : List UInt8 → Option (Int × List UInt8 × List UInt8)
  | t :: l :: r =>
    if l.toNat < 128 then (if l.toNat ≤ r.length then some (t.toNat, r.take l.toNat, r.drop l.toNat) else none)
    else if l.toNat - 128 < 1 ∨ 3 < l.toNat - 128 ∨ r.length < l.toNat - 128 ∨ r.getD 0 0 = 0 then none
    else if beVal (r.take (l.toNat - 128)) < 128 then none
    else if (r.drop (l.toNat - 128)).length < beVal (r.take (l.toNat - 128)) then none
    else some (t.toNat, (r.drop (l.toNat - 128)).take (beVal (r.take (l.toNat - 128))), (r.drop (l.toNat - 128)).drop (beVal (r.take (l.toNat - 128))))
  | _ => none
theorem headW_eq (t l : UInt8) (r : List UInt8) : headW (t :: l :: r) = (if l.toNat < 128 then (if l.toNat ≤ r.length then some ((t.toNat : Int), r.take l.toNat, r.drop l.toNat) else none)
    else if l.toNat - 128 < 1 ∨ 3 < l.toNat - 128 ∨ r.length < l.toNat - 128 ∨ r.getD 0 0 = 0 then none
    else if beVal (r.take (l.toNat - 128)) < 128 then none
    else if (r.drop (l.toNat - 128)).length < beVal (r.take (l.toNat - 128)) then none
    else some ((t.toNat : Int), (r.drop (l.toNat - 128)).take (beVal (r.take (l.toNat - 128))), (r.drop (l.toNat - 128)).drop (beVal (r.take (l.toNat - 128))))) := rfl
theorem headW_hdr (tag : Int) (h0 : 0 ≤ tag) (h1 : tag < 256) (b more : List UInt8) (hb : b.length < 16777216) : headW (hdr tag b ++ more) = some (tag, b, more) := by
  have ht : (byteI tag).toNat = tag := by
    unfold byteI
    rw [UInt8.toNat_ofNat']
    omega
  unfold hdr lenB
  by_cases h : b.length < 128
  · rw [if_pos h]
    have hl : (UInt8.ofNat b.length).toNat = b.length := by rw [UInt8.toNat_ofNat']; omega
    simp only [List.cons_append, List.nil_append, headW, hl, h, if_true, List.length_append, ht]
    rw [if_pos (by omega), List.take_left' rfl, List.drop_left' rfl]
  · rw [if_neg h]
    have hp := beMin_len_pos (n := b.length) (by omega)
    have hq := beMin_len_le (n := b.length) (k := 3) (by omega)
    have hl : (UInt8.ofNat (128 + (beMin b.length).length)).toNat = 128 + (beMin b.length).length := by rw [UInt8.toNat_ofNat']; omega
    have hd : ((beMin b.length ++ b ++ more).getD 0 0 = 0) = False := by
      refine eq_false (fun e => beMin_head b.length ?_)
      cases hm : beMin b.length with
      | nil => rw [hm] at hp; simp at hp
      | cons x l => rw [hm] at e; simp at e; rw [e]; rfl
    simp only [List.cons_append, headW, hl, ht]
    rw [if_neg (by omega), Nat.add_sub_cancel_left]
    rw [if_neg (by rw [hd]; simp only [or_false, List.length_append]; omega)]
    rw [List.append_assoc, List.take_left' rfl, List.drop_left' rfl, beVal_beMin, if_neg h, List.length_append, if_neg (by omega), List.take_left' rfl, List.drop_left' rfl]
theorem headW_some {b held rest : List UInt8} {tag : Int} (h : headW b = some (tag, held, rest)) : b = hdr tag held ++ rest ∧ 0 ≤ tag ∧ tag < 256 ∧ held.length < 16777216 := by
  match b, h with
  | t :: l :: r, h =>
    have htl := t.toNat_lt
    have hbt : byteI (t.toNat : Int) = t := by
      unfold byteI
      rw [show ((t.toNat : Int) % 256).toNat = t.toNat % 256 by omega]; exact byte_id t
    rw [headW_eq] at h
    split at h
    · split at h
      · rename_i h1 h2
        injection h with h; injection h with e1 h; injection h with e2 e3
        subst e1; subst e2; subst e3
        have hlen : (r.take l.toNat).length = l.toNat := by rw [List.length_take]; omega
        refine ⟨?_, by omega, by omega, by omega⟩
        unfold hdr lenB
        rw [hlen, if_pos h1, hbt]
        simp
      · cases h
    · split at h
      · cases h
      · split at h
        · cases h
        · split at h
          · cases h
          · rename_i h1 h2 h3 h4
            simp only [not_or, Nat.not_lt] at h2
            injection h with h; injection h with e1 h; injection h with e2 e3
            subst e1
            have hk : (r.take (l.toNat - 128)).length = l.toNat - 128 := by rw [List.length_take]; omega
            have hhd : (r.take (l.toNat - 128)).head? ≠ some 0 := by
              intro e
              cases r with
              | nil => simp at e
              | cons x r =>
                rw [show l.toNat - 128 = (l.toNat - 129) + 1 by omega, List.take_succ_cons, List.head?_cons] at e
                injection e with e
                exact h2.2.2.2 (by simp [e])
            have hbm := beMin_beVal _ hhd
            have hlt := beVal_lt (r.take (l.toNat - 128))
            rw [hk] at hlt
            have hlt2 : 256 ^ (l.toNat - 128) ≤ 256 ^ 3 := Nat.pow_le_pow_right (by omega) (by omega)
            generalize beVal (r.take (l.toNat - 128)) = v at *
            have hlen : held.length = v := by rw [← e2, List.length_take]; omega
            refine ⟨?_, by omega, by omega, by omega⟩
            unfold hdr lenB
            rw [hlen, if_neg h3, hbm, hk, hbt, show 128 + (l.toNat - 128) = l.toNat by omega, UInt8.ofNat_toNat, ← e2, ← e3]
            simp only [List.cons_append, List.append_assoc, List.take_append_drop]
/-- Reading many. -/
def many (f : List UInt8 → Option (Nd × List UInt8)) : Nat → List UInt8 → Option (List Nd)
  | _, [] => some []
  | 0, _ :: _ => none
  | fuel + 1, x :: b => match f (x :: b) with
    | none => none
    | some (k, r) => (many f fuel r).map (k :: ·)
/-- Reading one; d: so many steps to the deepest. -/
def dec : Nat → List UInt8 → Option (Nd × List UInt8)
  | 0, _ => none
  | d + 1, b => match headW b with
    | none => none
    | some (tag, held, rest) => if tag = 48 then (many (dec d) held.length held).map (fun ks => (.mk 48 [] ks, rest)) else if plainOk tag held then some (.mk tag held [], rest) else none
theorem headW_less {b held rest : List UInt8} {tag : Int} (h : headW b = some (tag, held, rest)) : held.length + rest.length + 2 ≤ b.length := by
  have h1 := (headW_some h).1
  have h2 := lenB_pos held.length
  rw [h1, List.length_append, hdr_len]
  omega
theorem plainOk_tag {tag : Int} {b : List UInt8} (h : plainOk tag b = true) : 0 ≤ tag ∧ tag < 256 ∧ tag ≠ 48 := by
  unfold plainOk at h
  by_cases h2 : tag = 2; · omega
  by_cases h3 : tag = 3; · omega
  by_cases h4 : tag = 4; · omega
  by_cases h5 : tag = 5; · omega
  by_cases h6 : tag = 6; · omega
  rw [if_neg h2, if_neg h3, if_neg h4, if_neg h5, if_neg h6] at h
  cases h
theorem Nd.ok_succ {d : Nat} {n : Nd} (h : n.ok d = true) : ∃ e, d = e + 1 := by
  cases d with
  | zero => cases n; simp [Nd.ok] at h
  | succ e => exact ⟨e, rfl⟩
/-- What an ok node is made of. -/
theorem Nd.ok_cases {d : Nat} {tag : Int} {b : List UInt8} {ks : List Nd} (h : (Nd.mk tag b ks).ok (d + 1) = true) : (tag = 48 ∧ b = [] ∧ okAll d ks = true) ∨ (tag ≠ 48 ∧ ks = [] ∧ plainOk tag b = true) := by
  rw [Nd.ok] at h
  by_cases ht : tag = 48
  · rw [if_pos ht, Bool.and_eq_true, decide_eq_true_eq] at h
    exact .inl ⟨ht, List.eq_nil_of_length_eq_zero h.1, h.2⟩
  · rw [if_neg ht, Bool.and_eq_true, decide_eq_true_eq] at h
    exact .inr ⟨ht, List.eq_nil_of_length_eq_zero h.1, h.2⟩
theorem encAll_len2 {ks : List Nd} (h : ∀ k ∈ ks, 2 * k.size ≤ k.enc.length) : 2 * sizeAll ks ≤ (encAll ks).length := by
  induction ks with
  | nil => simp [sizeAll]
  | cons k ks ihk =>
    rw [sizeAll, encAll, List.length_append]
    have := h k (by simp)
    have := ihk (fun x hx => h x (by simp [hx]))
    omega
theorem enc_len2 : ∀ (d : Nat) (n : Nd), n.ok d = true → 2 * n.size ≤ n.enc.length
  | 0, n, h => by cases n; simp [Nd.ok] at h
  | d + 1, .mk tag b ks, h => by
    rw [Nd.size, Nd.enc, hdr_len]
    rcases Nd.ok_cases h with ⟨ht, hb, hk⟩ | ⟨ht, hk, hp⟩
    · rw [if_pos ht]
      have hl := lenB_pos (encAll ks).length
      have := encAll_len2 (fun k hm => enc_len2 d k (okAll_mem hk hm))
      omega
    · subst hk
      rw [if_neg ht, sizeAll]
      have hl := lenB_pos b.length
      omega
theorem many_enc (f : List UInt8 → Option (Nd × List UInt8)) : ∀ (ks : List Nd) (fuel : Nat), (∀ k ∈ ks, 1 ≤ k.enc.length) → (∀ k ∈ ks, ∀ more, f (k.enc ++ more) = some (k, more)) → (encAll ks).length ≤ fuel → many f fuel (encAll ks) = some ks
  | [], fuel, _, _, _ => by unfold encAll many; rfl
  | k :: ks, fuel, h1, h2, hf => by
    rw [encAll, List.length_append] at hf
    have hk := h1 k (by simp)
    obtain ⟨fuel, rfl⟩ : ∃ e, fuel = e + 1 := ⟨fuel - 1, by omega⟩
    have h3 := h2 k (by simp) (encAll ks)
    rw [encAll]
    cases hc : k.enc ++ encAll ks with
    | nil => have := congrArg List.length hc; rw [List.length_append] at this; simp only [List.length_nil] at this; omega
    | cons x l =>
      rw [hc] at h3
      unfold many
      simp only [h3]
      rw [many_enc f ks fuel (fun x hx => h1 x (by simp [hx])) (fun x hx => h2 x (by simp [hx])) (by omega)]
      rfl
theorem dec_enc : ∀ (d : Nat) (n : Nd) (more : List UInt8), n.ok d = true → n.enc.length < 16777216 → dec d (n.enc ++ more) = some (n, more)
  | 0, n, _, h, _ => by cases n; simp [Nd.ok] at h
  | d + 1, .mk tag b ks, more, h, hl => by
    rw [Nd.enc, hdr_len] at hl
    rw [Nd.enc]
    rcases Nd.ok_cases h with ⟨ht, hb, hk⟩ | ⟨ht, hk, hp⟩
    · rw [if_pos ht] at hl ⊢
      subst ht; subst hb
      unfold dec
      rw [headW_hdr 48 (by omega) (by omega) _ _ (by omega)]
      simp only [if_true]
      rw [many_enc (dec d) ks _ (fun k hm => by have := enc_len2 d k (okAll_mem hk hm); have := k.size_pos; omega) (fun k hm more => dec_enc d k more (okAll_mem hk hm) (by have := encAll_mem hm; omega)) (Nat.le_refl _)]
      rfl
    · rw [if_neg ht] at hl ⊢
      subst hk
      obtain ⟨p1, p2, p3⟩ := plainOk_tag hp
      unfold dec
      rw [headW_hdr tag p1 p2 _ _ (by omega)]
      simp only
      rw [if_neg ht, if_pos hp]
theorem many_some (f : List UInt8 → Option (Nd × List UInt8)) (d : Nat) (hf : ∀ b k r, f b = some (k, r) → b = k.enc ++ r ∧ k.ok d = true) : ∀ (fuel : Nat) (b : List UInt8) (ks : List Nd), many f fuel b = some ks → b = encAll ks ∧ okAll d ks = true
  | fuel, [], ks, h => by
    unfold many at h; injection h with h; subst h; exact ⟨rfl, rfl⟩
  | 0, x :: b, ks, h => by unfold many at h; cases h
  | fuel + 1, x :: b, ks, h => by
    unfold many at h
    cases hc : f (x :: b) with
    | none => rw [hc] at h; cases h
    | some kr =>
      obtain ⟨k, r⟩ := kr
      rw [hc] at h
      simp only at h
      cases hm : many f fuel r with
      | none => rw [hm] at h; cases h
      | some l =>
        rw [hm] at h
        injection h with h
        subst h
        obtain ⟨e1, o1⟩ := hf _ _ _ hc
        obtain ⟨e2, o2⟩ := many_some f d hf fuel r l hm
        exact ⟨by rw [e1, encAll, ← e2], by rw [okAll, o1, o2]; rfl⟩
theorem dec_some : ∀ (d : Nat) (b : List UInt8) (n : Nd) (rest : List UInt8), dec d b = some (n, rest) → b = n.enc ++ rest ∧ n.ok d = true
  | 0, b, n, rest, h => by unfold dec at h; cases h
  | d + 1, b, n, rest, h => by
    unfold dec at h
    cases hh : headW b with
    | none => rw [hh] at h; cases h
    | some x =>
      obtain ⟨tag, held, r⟩ := x
      rw [hh] at h
      simp only at h
      obtain ⟨hb, _, _, _⟩ := headW_some hh
      by_cases ht : tag = 48
      · rw [if_pos ht] at h
        cases hm : many (dec d) held.length held with
        | none => rw [hm] at h; cases h
        | some ks =>
          rw [hm] at h
          simp only [Option.map_some, Option.some.injEq, Prod.mk.injEq] at h
          obtain ⟨h, rfl⟩ := h
          subst h
          obtain ⟨e, o⟩ := many_some (dec d) d (fun b k r hk => dec_some d b k r hk) _ _ _ hm
          subst ht
          refine ⟨by rw [Nd.enc, if_pos rfl, ← e]; exact hb, by rw [Nd.ok, if_pos rfl, o]; rfl⟩
      · rw [if_neg ht] at h
        by_cases hp : plainOk tag held = true
        · rw [if_pos hp] at h
          simp only [Option.some.injEq, Prod.mk.injEq] at h
          obtain ⟨h, rfl⟩ := h
          subst h
          refine ⟨by rw [Nd.enc, if_neg ht]; exact hb, by rw [Nd.ok, if_neg ht, hp]; rfl⟩
        · rw [if_neg hp] at h; cases h
/-- Reading with a count of how many nodes there may be yet. -/
def manyL (f : Int → List UInt8 → Option (Nd × List UInt8) × Int) : Nat → Int → List UInt8 → Option (List Nd) × Int
  | _, left, [] => (some [], left)
  | 0, left, _ :: _ => (none, left)
  | fuel + 1, left, x :: b => match f left (x :: b) with
    | (none, l') => (none, l')
    | (some (k, r), l') => ((manyL f fuel l' r).1.map (k :: ·), (manyL f fuel l' r).2)
def decL : Nat → Int → List UInt8 → Option (Nd × List UInt8) × Int
  | 0, left, _ => (none, left - 1)
  | d + 1, left, b => if left - 1 < 0 then (none, left - 1) else match headW b with
    | none => (none, left - 1)
    | some (tag, held, rest) => if tag = 48 then ((manyL (decL d) held.length (left - 1) held).1.map (fun ks => (.mk 48 [] ks, rest)), (manyL (decL d) held.length (left - 1) held).2)
      else (if plainOk tag held then some (.mk tag held [], rest) else none, left - 1)
def Counts (f : List UInt8 → Option (Nd × List UInt8)) (g : Int → List UInt8 → Option (Nd × List UInt8) × Int) : Prop :=
  ∀ (left : Int) (b : List UInt8), 0 ≤ left → (f b = none → (g left b).1 = none) ∧ ∀ n r, f b = some (n, r) → if (n.size : Int) ≤ left then g left b = (some (n, r), left - n.size) else (g left b).1 = none
theorem manyL_counts {f : List UInt8 → Option (Nd × List UInt8)} {g : Int → List UInt8 → Option (Nd × List UInt8) × Int} (hg : Counts f g) : ∀ (fuel : Nat) (left : Int) (b : List UInt8), 0 ≤ left → (many f fuel b = none → (manyL g fuel left b).1 = none) ∧ ∀ ks, many f fuel b = some ks → if (sizeAll ks : Int) ≤ left then manyL g fuel left b = (some ks, left - sizeAll ks) else (manyL g fuel left b).1 = none
  | fuel, left, [], h => by
    unfold many manyL
    refine ⟨fun h => by simp at h, fun ks hk => ?_⟩
    injection hk with hk; subst hk
    rw [sizeAll, if_pos (by simpa using h)]; simp
  | 0, left, x :: b, h => by
    unfold many manyL
    exact ⟨fun _ => rfl, fun ks hk => by cases hk⟩
  | fuel + 1, left, x :: b, h => by
    obtain ⟨g1, g2⟩ := hg left (x :: b) h
    unfold many manyL
    cases hc : f (x :: b) with
    | none =>
      have e := g1 hc
      refine ⟨fun _ => ?_, fun ks hk => by simp at hk⟩
      cases hq : g left (x :: b) with
      | mk o l' => rw [hq] at e; simp only at e; subst e; rfl
    | some kr =>
      obtain ⟨k, r⟩ := kr
      have e := g2 k r hc
      simp only
      have hkp := k.size_pos
      by_cases hs : (k.size : Int) ≤ left
      · rw [if_pos hs] at e
        rw [e]
        simp only
        obtain ⟨j1, j2⟩ := manyL_counts hg fuel (left - k.size) r (by omega)
        cases hm : many f fuel r with
        | none => exact ⟨fun _ => by rw [j1 hm]; rfl, fun ks hk => by simp at hk⟩
        | some l =>
          have e2 := j2 l hm
          refine ⟨fun h => by simp at h, fun ks hk => ?_⟩
          simp only [Option.map_some, Option.some.injEq] at hk
          subst hk
          rw [sizeAll]
          by_cases hs2 : (sizeAll l : Int) ≤ left - k.size
          · rw [if_pos hs2] at e2
            rw [if_pos (by omega), e2]
            simp only [Option.map_some, Prod.mk.injEq, true_and]; omega
          · rw [if_neg hs2] at e2
            rw [if_neg (by omega), e2]; rfl
      · rw [if_neg hs] at e
        have hn : ∀ {o : Option (Nd × List UInt8) × Int}, o.1 = none → (match o with | (none, l') => ((none : Option (List Nd)), l') | (some (k, r), l') => ((manyL g fuel l' r).1.map (k :: ·), (manyL g fuel l' r).2)).1 = none := by
          intro o ho
          obtain ⟨o1, o2⟩ := o
          simp only at ho; subst ho; rfl
        refine ⟨fun _ => hn e, fun ks hk => ?_⟩
        cases hm : many f fuel r with
        | none => rw [hm] at hk; simp at hk
        | some l =>
          rw [hm] at hk
          simp only [Option.map_some, Option.some.injEq] at hk
          subst hk
          rw [sizeAll, if_neg (by omega)]
          exact hn e
theorem decL_counts : ∀ d, Counts (dec d) (decL d)
  | 0 => fun left b h => by unfold dec decL; exact ⟨fun _ => rfl, fun n r hk => by cases hk⟩
  | d + 1 => fun left b h => by
    unfold dec decL
    by_cases h1 : left - 1 < 0
    · rw [if_pos h1]
      refine ⟨fun _ => rfl, fun n r _ => ?_⟩
      have := n.size_pos
      rw [if_neg (by omega)]
    · rw [if_neg h1]
      cases hh : headW b with
      | none => exact ⟨fun _ => rfl, fun n r hk => by cases hk⟩
      | some x =>
        obtain ⟨tag, held, rest⟩ := x
        simp only
        by_cases ht : tag = 48
        · rw [if_pos ht, if_pos ht]
          obtain ⟨j1, j2⟩ := manyL_counts (decL_counts d) held.length (left - 1) held (by omega)
          cases hm : many (dec d) held.length held with
          | none => exact ⟨fun _ => by rw [j1 hm]; rfl, fun n r hk => by cases hk⟩
          | some ks =>
            have e := j2 ks hm
            refine ⟨fun h => by simp at h, fun n r hk => ?_⟩
            simp only [Option.map_some, Option.some.injEq, Prod.mk.injEq] at hk
            obtain ⟨rfl, rfl⟩ := hk
            rw [Nd.size]
            by_cases hs : (sizeAll ks : Int) ≤ left - 1
            · rw [if_pos hs] at e
              rw [if_pos (by omega), e]
              simp only [Option.map_some, Prod.mk.injEq, true_and]; omega
            · rw [if_neg hs] at e
              rw [if_neg (by omega), e]; rfl
        · rw [if_neg ht, if_neg ht]
          by_cases hp : plainOk tag held = true
          · rw [if_pos hp]
            refine ⟨fun h => by simp at h, fun n r hk => ?_⟩
            simp only [Option.some.injEq, Prod.mk.injEq] at hk
            obtain ⟨rfl, rfl⟩ := hk
            rw [Nd.size, sizeAll, if_pos (by omega)]
            simp
          · rw [if_neg hp]
            exact ⟨fun _ => rfl, fun n r hk => by cases hk⟩
end Go.Proofs.Ytgkhhinjdojbhaa
