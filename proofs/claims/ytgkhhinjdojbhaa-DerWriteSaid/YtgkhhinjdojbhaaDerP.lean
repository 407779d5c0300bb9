/-
  DER plainly: nodes, which may be, how they are written and read. No program in sight.
-/
namespace Go.Proofs.Ytgkhhinjdojbhaa

/-- A node: its tag, its bytes, its kids. -/
inductive Nd where | mk (tag : Int) (b : List UInt8) (kids : List Nd)
def Nd.tag : Nd → Int | .mk t _ _ => t
def Nd.b : Nd → List UInt8 | .mk _ b _ => b
def Nd.kids : Nd → List Nd | .mk _ _ k => k
theorem Nd.eta (n : Nd) : n = .mk n.tag n.b n.kids := by cases n; rfl

mutual
def Nd.size : Nd → Nat | .mk _ _ ks => 1 + sizeAll ks
def sizeAll : List Nd → Nat | [] => 0 | k :: ks => k.size + sizeAll ks
end
theorem Nd.size_pos (n : Nd) : 1 ≤ n.size := by cases n; simp [Nd.size]
theorem sizeAll_le {l : List Nd} {k : Nd} (h : k ∈ l) : k.size ≤ sizeAll l := by
  induction l with
  | nil => cases h
  | cons x l ih =>
    rcases List.mem_cons.1 h with e | h
    · subst e; simp [sizeAll]
    · have := ih h; simp only [sizeAll]; omega
/-- Recursion over a node and its kids. -/
theorem Nd.rec' {P : Nd → Prop} (h : ∀ t b ks, (∀ k ∈ ks, P k) → P (.mk t b ks)) (n : Nd) : P n := by
  have : ∀ m (n : Nd), n.size ≤ m → P n := by
    intro m
    induction m with
    | zero => intro n hn; have := n.size_pos; omega
    | succ m ih =>
      intro n hn
      cases n with
      | mk t b ks =>
        refine h t b ks (fun k hk => ih k ?_)
        have := sizeAll_le hk
        simp only [Nd.size] at hn
        omega
  exact this n.size n (Nat.le_refl _)

/-- Numbers to the base 128, as the program looks at them: may another one begin here?, none says no. -/
def nameGo (begins : Bool) : List UInt8 → Option Bool
  | [] => some begins
  | x :: l => if begins && x == 128 then none else nameGo (decide (x < 128)) l
def nameOk (b : List UInt8) : Bool := match nameGo true b with | none => false | some e => decide (0 < b.length) && e
/-- May the bytes of a node be? -/
def plainOk (tag : Int) (b : List UInt8) : Bool :=
  if tag = 2 then decide (0 < b.length) && decide (b.getD 0 0 < 128) && (decide (0 < b.getD 0 0) || decide (b.length = 1) || decide (128 ≤ b.getD 1 0))
  else if tag = 3 then decide (0 < b.length) && decide (b.getD 0 0 = 0)
  else if tag = 4 then true
  else if tag = 5 then decide (b.length = 0)
  else if tag = 6 then nameOk b
  else false

mutual
/-- May it be, at so many steps from the deepest? -/
def Nd.ok : Nat → Nd → Bool
  | 0, _ => false
  | d + 1, .mk tag b ks => if tag = 48 then decide (b.length = 0) && okAll d ks else decide (ks.length = 0) && plainOk tag b
def okAll : Nat → List Nd → Bool
  | _, [] => true
  | d, k :: ks => k.ok d && okAll d ks
end
theorem okAll_mem {d : Nat} {l : List Nd} (h : okAll d l = true) {k : Nd} (hk : k ∈ l) : k.ok d = true := by
  induction l with
  | nil => cases hk
  | cons x l ih =>
    simp only [okAll, Bool.and_eq_true] at h
    rcases List.mem_cons.1 hk with e | hk
    · subst e; exact h.1
    · exact ih h.2 hk

mutual
/-- The program's 'may': the answer, and how many nodes there may be yet. d: so many steps to the deepest. -/
def Nd.mayW : Nat → Int → Nd → Bool × Int
  | d, left, .mk tag b ks =>
    if left - 1 < 0 then (false, left - 1) else
    match d with
    | 0 => (false, left - 1)
    | d + 1 => if tag = 48 then (if 0 < b.length then (false, left - 1) else mayAll d (left - 1) ks) else (decide (ks.length = 0) && plainOk tag b, left - 1)
def mayAll : Nat → Int → List Nd → Bool × Int
  | _, left, [] => (true, left)
  | d, left, k :: ks => if (k.mayW d left).1 then mayAll d (k.mayW d left).2 ks else (false, (k.mayW d left).2)
end
mutual
theorem Nd.mayW_spec : ∀ (n : Nd) (d : Nat) (left : Int), 0 ≤ left → ((n.mayW d left).1 = true ↔ n.ok d = true ∧ (n.size : Int) ≤ left) ∧ ((n.mayW d left).1 = true → (n.mayW d left).2 = left - n.size)
  | .mk tag b ks, d, left, h => by
    unfold Nd.mayW
    by_cases h1 : left - 1 < 0
    · rw [if_pos h1]
      refine ⟨⟨fun h => by simp at h, fun h => ?_⟩, fun h => by simp at h⟩
      have := (Nd.mk tag b ks).size_pos
      omega
    · rw [if_neg h1]
      cases d with
      | zero => simp [Nd.ok]
      | succ d =>
        simp only
        by_cases h2 : tag = 48
        · rw [if_pos h2]
          by_cases h3 : 0 < b.length
          · rw [if_pos h3]
            refine ⟨⟨fun h => by simp at h, fun h => ?_⟩, fun h => by simp at h⟩
            have h4 := h.1
            rw [Nd.ok, if_pos h2] at h4
            simp only [Bool.and_eq_true, decide_eq_true_eq] at h4
            omega
          · rw [if_neg h3]
            have h4 : b.length = 0 := by omega
            obtain ⟨i1, i2⟩ := mayAll_spec ks d (left - 1) (by omega)
            rw [Nd.ok, if_pos h2, Nd.size]
            simp only [h4, decide_true, Bool.true_and]
            refine ⟨i1.trans ⟨fun h => ⟨h.1, by omega⟩, fun h => ⟨h.1, by omega⟩⟩, fun h => ?_⟩
            rw [i2 h]; omega
        · rw [if_neg h2, Nd.ok, if_neg h2]
          simp only
          refine ⟨⟨fun h => ⟨h, ?_⟩, fun h => h.1⟩, fun h => ?_⟩
          all_goals
            simp only [Bool.and_eq_true, decide_eq_true_eq] at h
            have hk : ks = [] := List.eq_nil_of_length_eq_zero h.1
            subst hk
            simp [Nd.size, sizeAll]
          omega
theorem mayAll_spec : ∀ (ks : List Nd) (d : Nat) (left : Int), 0 ≤ left → ((mayAll d left ks).1 = true ↔ okAll d ks = true ∧ (sizeAll ks : Int) ≤ left) ∧ ((mayAll d left ks).1 = true → (mayAll d left ks).2 = left - sizeAll ks)
  | [], d, left, h => by simp [mayAll, okAll, sizeAll, h]
  | k :: ks, d, left, h => by
    obtain ⟨i1, i2⟩ := k.mayW_spec d left h
    unfold mayAll
    by_cases hc : (k.mayW d left).1 = true
    · rw [if_pos hc]
      have e := i2 hc
      have hs := (i1.1 hc).2
      obtain ⟨j1, j2⟩ := mayAll_spec ks d (k.mayW d left).2 (by omega)
      rw [okAll, sizeAll]
      have ho := (i1.1 hc).1
      simp only [ho, Bool.true_and]
      rw [e] at j1 j2 ⊢
      refine ⟨j1.trans ⟨fun h => ⟨h.1, by omega⟩, fun h => ⟨h.1, by omega⟩⟩, fun h => ?_⟩
      rw [j2 h]; omega
    · rw [if_neg hc]
      refine ⟨⟨fun h => by simp at h, fun h => ?_⟩, fun h => by simp at h⟩
      exfalso
      refine hc (i1.2 ⟨?_, ?_⟩)
      · have := h.1; rw [okAll, Bool.and_eq_true] at this; exact this.1
      · have := h.2; rw [sizeAll] at this; omega
end
theorem mayW_low : ∀ (n : Nd) (d : Nat) (left : Int), 0 ≤ left → -1 ≤ (n.mayW d left).2 ∧ (n.mayW d left).2 ≤ left ∧ ((n.mayW d left).1 = true → 0 ≤ (n.mayW d left).2) := by
  intro n
  refine Nd.rec' (P := fun n => ∀ (d : Nat) (left : Int), 0 ≤ left → -1 ≤ (n.mayW d left).2 ∧ (n.mayW d left).2 ≤ left ∧ ((n.mayW d left).1 = true → 0 ≤ (n.mayW d left).2)) ?_ n
  intro tag b ks ih d left h
  unfold Nd.mayW
  by_cases h1 : left - 1 < 0
  · rw [if_pos h1]; refine ⟨by simp only []; omega, by simp only []; omega, fun h => by simp at h⟩
  · rw [if_neg h1]
    cases d with
    | zero => refine ⟨by simp only []; omega, by simp only []; omega, fun h => by simp at h⟩
    | succ d =>
      simp only
      have hall : ∀ (l : List Nd), (∀ k ∈ l, k ∈ ks) → ∀ left : Int, 0 ≤ left → -1 ≤ (mayAll d left l).2 ∧ (mayAll d left l).2 ≤ left ∧ ((mayAll d left l).1 = true → 0 ≤ (mayAll d left l).2) := by
        intro l
        induction l with
        | nil => intro _ left h; simp [mayAll, h]; omega
        | cons k l ihl =>
          intro hm left h
          obtain ⟨a1, a2, a3⟩ := ih k (hm k (by simp)) d left h
          unfold mayAll
          by_cases hc : (k.mayW d left).1 = true
          · rw [if_pos hc]
            obtain ⟨b1, b2, b3⟩ := ihl (fun x hx => hm x (by simp [hx])) (k.mayW d left).2 (a3 hc)
            exact ⟨b1, by omega, b3⟩
          · rw [if_neg hc]
            exact ⟨a1, a2, fun h => by simp at h⟩
      split
      · split
        · refine ⟨by simp only []; omega, by simp only []; omega, fun h => by simp at h⟩
        · obtain ⟨a1, a2, a3⟩ := hall ks (fun _ h => h) (left - 1) (by omega)
          exact ⟨a1, by omega, a3⟩
      · exact ⟨by simp only []; omega, by simp only []; omega, fun _ => by simp only []; omega⟩
end Go.Proofs.Ytgkhhinjdojbhaa
