/-
  DER: may the bytes of a node be? The whole test, the program's and the reference's.
-/
import Derived.Test.YtgkhhinjdojbhaaDer1
namespace Go.Proofs.Ytgkhhinjdojbhaa
open Go.RowKit

theorem u8_pos (x : UInt8) : (0 < x) ↔ (0 : Int) < x.toNat := by rw [UInt8.lt_iff_toNat_lt]; show 0 < x.toNat ↔ _; omega
theorem u8_zero (x : UInt8) : (x = 0) ↔ (x.toNat : Int) = 0 := by rw [← UInt8.toNat_inj]; show x.toNat = 0 ↔ _; omega
theorem u8_ge128 (x : UInt8) : (128 ≤ x) ↔ (128 : Int) ≤ x.toNat := by rw [UInt8.le_iff_toNat_le]; show 128 ≤ x.toNat ↔ _; omega
set_option maxRecDepth 100000 in
set_option maxHeartbeats 4000000 in
theorem plain_any (tag : Int) (A : Option Addr) (m c : Nat) (l : List UInt8) (w : World) (h : Rd w A m c l) :
    Calls Try.prog 53 #[.int .i64 tag, .slice A m c] w fun e w' => e = .returned (.bool (plainOk tag l)) ∧ w = w' := by
  have hml : l.length = m := by have := h.1; omega
  have hmax : (m : Int) ≤ 9223372036854775807 := by have := h.2.1; have := h.2.2.1; unfold maxLen at *; omega
  have HR := Lib.hid h
  clear h
  go_enter Try.func53, Try.ntmps53
  by_cases k2 : tag = 2
  · subst k2
    cases l with
    | nil =>
      simp only [List.length_nil] at hml
      subst hml
      have hres : plainOk 2 [] = false := by simp [plainOk]
      have HN := Lib.hid hres
      clear hres
      try clear hx0
      try clear a3
      try clear a2
      try clear a1
      go_wp2_with fail
      go_ret
      exact ⟨by rw [HN.out]; first | rfl | (refine congrArg Ending.returned (congrArg Value.bool ?_); first | exact decide_eq_false (by omega) | exact decide_eq_true (by omega)), rfl⟩
    | cons x t =>
      have hm0 : 0 < m := by rw [← hml]; simp
      have hm0i : (0 : Int) < m := by omega
      have hmn : ¬ (m : Int) ≤ 0 := by omega
      obtain ⟨g, off, rfl, c0⟩ := HR.out.byte (k := 0) (x := x) rfl
      rw [Nat.add_zero] at c0
      by_cases a1 : x < 128
      · have i1 : (x.toNat : Int) < 128 := (u8_lt128 x).1 a1
        have d1 : decide ((x.toNat : Int) < 128) = true := decide_eq_true i1
        by_cases a2 : 0 < x
        · have i2 : (0 : Int) < x.toNat := (u8_pos x).1 a2
          have d2 : decide ((0 : Int) < x.toNat) = true := decide_eq_true i2
          have hres : plainOk 2 (x :: t) = true := by simp [plainOk, a1, a2]
          have HN := Lib.hid hres
          clear hres
          try clear hx0
          try clear a3
          try clear a2
          try clear a1
          go_wp2_with fail
          go_ret
          exact ⟨by rw [HN.out]; first | rfl | (refine congrArg Ending.returned (congrArg Value.bool ?_); first | exact decide_eq_false (by omega) | exact decide_eq_true (by omega)), rfl⟩
        · have i2 : ¬ (0 : Int) < x.toNat := fun e => a2 ((u8_pos x).2 e)
          have d2 : decide ((0 : Int) < x.toNat) = false := decide_eq_false i2
          have i3 : (x.toNat : Int) = 0 := by omega
          have d3 : decide ((x.toNat : Int) = 0) = true := decide_eq_true i3
          have hx0 : x = 0 := (u8_zero x).2 i3
          rw [i3] at c0
          cases t with
          | nil =>
            simp only [List.length_cons, List.length_nil] at hml
            subst hml
            have hres : plainOk 2 [x] = true := by simp [plainOk, hx0]
            have HN := Lib.hid hres
            clear hres
            try clear hx0
            try clear a3
            try clear a2
            try clear a1
            go_wp2_with fail
            go_ret
            exact ⟨by rw [HN.out]; first | rfl | (refine congrArg Ending.returned (congrArg Value.bool ?_); first | exact decide_eq_false (by omega) | exact decide_eq_true (by omega)), rfl⟩
          | cons y t =>
            have hm1 : ¬ ((m : Int) = 1) := by rw [← hml]; simp only [List.length_cons]; omega
            have hm1d : decide ((m : Int) = 1) = false := decide_eq_false hm1
            have hm1i : (1 : Int) < m := by omega
            obtain ⟨g', off', hA, c1⟩ := HR.out.byte (k := 1) (x := y) rfl
            cases hA
            by_cases a3 : 128 ≤ y
            · have i4 : (128 : Int) ≤ y.toNat := (u8_ge128 y).1 a3
              have d4 : decide ((128 : Int) ≤ y.toNat) = true := decide_eq_true i4
              have hres : plainOk 2 (x :: y :: t) = true := by simp [plainOk, a3, hx0]
              have HN := Lib.hid hres
              clear hres
              try clear hx0
              try clear a3
              try clear a2
              try clear a1
              go_wp2_with fail
              go_ret
              exact ⟨by rw [HN.out]; first | rfl | (refine congrArg Ending.returned (congrArg Value.bool ?_); first | exact decide_eq_false (by omega) | exact decide_eq_true (by omega)), rfl⟩
            · have i4 : ¬ (128 : Int) ≤ y.toNat := fun e => a3 ((u8_ge128 y).2 e)
              have d4 : decide ((128 : Int) ≤ y.toNat) = false := decide_eq_false i4
              have hres : plainOk 2 (x :: y :: t) = false := by simp [plainOk, a3, hx0]
              have HN := Lib.hid hres
              clear hres
              try clear hx0
              try clear a3
              try clear a2
              try clear a1
              go_wp2_with fail
              go_ret
              exact ⟨by rw [HN.out]; first | rfl | (refine congrArg Ending.returned (congrArg Value.bool ?_); first | exact decide_eq_false (by omega) | exact decide_eq_true (by omega)), rfl⟩
      · have i1 : ¬ (x.toNat : Int) < 128 := fun e => a1 ((u8_lt128 x).2 e)
        have d1 : decide ((x.toNat : Int) < 128) = false := decide_eq_false i1
        have hres : plainOk 2 (x :: t) = false := by simp [plainOk, a1]
        have HN := Lib.hid hres
        clear hres
        try clear hx0
        try clear a3
        try clear a2
        try clear a1
        go_wp2_with fail
        go_ret
        exact ⟨by rw [HN.out]; first | rfl | (refine congrArg Ending.returned (congrArg Value.bool ?_); first | exact decide_eq_false (by omega) | exact decide_eq_true (by omega)), rfl⟩
  have kd2 : (tag == 2) = false := by simp [k2]
  by_cases k3 : tag = 3
  · subst k3
    cases l with
    | nil =>
      simp only [List.length_nil] at hml
      subst hml
      have hres : plainOk 3 [] = false := by simp [plainOk]
      have HN := Lib.hid hres
      clear hres
      try clear hx0
      try clear a3
      try clear a2
      try clear a1
      go_wp2_with fail
      go_ret
      exact ⟨by rw [HN.out]; first | rfl | (refine congrArg Ending.returned (congrArg Value.bool ?_); first | exact decide_eq_false (by omega) | exact decide_eq_true (by omega)), rfl⟩
    | cons x t =>
      have hm0 : 0 < m := by rw [← hml]; simp
      have hm0i : (0 : Int) < m := by omega
      have hmn : ¬ (m : Int) ≤ 0 := by omega
      obtain ⟨g, off, rfl, c0⟩ := HR.out.byte (k := 0) (x := x) rfl
      rw [Nat.add_zero] at c0
      by_cases a1 : x = 0
      · have i3 : (x.toNat : Int) = 0 := (u8_zero x).1 a1
        rw [i3] at c0
        have hres : plainOk 3 (x :: t) = true := by simp [plainOk, a1]
        have HN := Lib.hid hres
        clear hres
        try clear hx0
        try clear a3
        try clear a2
        try clear a1
        go_wp2_with fail
        go_ret
        exact ⟨by rw [HN.out]; first | rfl | (refine congrArg Ending.returned (congrArg Value.bool ?_); first | exact decide_eq_false (by omega) | exact decide_eq_true (by omega)), rfl⟩
      · have i3 : ¬ ((x.toNat : Int) = 0) := fun e => a1 ((u8_zero x).2 e)
        have d3 : decide ((x.toNat : Int) = 0) = false := decide_eq_false i3
        have hres : plainOk 3 (x :: t) = false := by simp [plainOk, a1]
        have HN := Lib.hid hres
        clear hres
        try clear hx0
        try clear a3
        try clear a2
        try clear a1
        go_wp2_with fail
        go_ret
        exact ⟨by rw [HN.out]; first | rfl | (refine congrArg Ending.returned (congrArg Value.bool ?_); first | exact decide_eq_false (by omega) | exact decide_eq_true (by omega)), rfl⟩
  have kd3 : (tag == 3) = false := by simp [k3]
  by_cases k4 : tag = 4
  · subst k4
    have hres : plainOk 4 l = true := by simp [plainOk]
    have HN := Lib.hid hres
    clear hres
    try clear hx0
    try clear a3
    try clear a2
    try clear a1
    go_wp2_with fail
    go_ret
    exact ⟨by rw [HN.out]; first | rfl | (refine congrArg Ending.returned (congrArg Value.bool ?_); first | exact decide_eq_false (by omega) | exact decide_eq_true (by omega)), rfl⟩
  have kd4 : (tag == 4) = false := by simp [k4]
  by_cases k5 : tag = 5
  · subst k5
    by_cases a1 : m = 0
    · subst a1
      obtain rfl : l = [] := List.eq_nil_of_length_eq_zero hml
      have hres : plainOk 5 [] = true := by simp [plainOk]
      have HN := Lib.hid hres
      clear hres
      try clear hx0
      try clear a3
      try clear a2
      try clear a1
      go_wp2_with fail
      go_ret
      exact ⟨by rw [HN.out]; first | rfl | (refine congrArg Ending.returned (congrArg Value.bool ?_); first | exact decide_eq_false (by omega) | exact decide_eq_true (by omega)), rfl⟩
    · have i1 : ¬ ((m : Int) = 0) := by omega
      have d1 : decide ((m : Int) = 0) = false := decide_eq_false i1
      have hne : l ≠ [] := fun e => by subst e; simp at hml; omega
      have hres : plainOk 5 l = false := by simp [plainOk, hne]
      have HN := Lib.hid hres
      clear hres
      try clear hx0
      try clear a3
      try clear a2
      try clear a1
      go_wp2_with fail
      go_ret
      exact ⟨by rw [HN.out]; first | rfl | (refine congrArg Ending.returned (congrArg Value.bool ?_); first | exact decide_eq_false (by omega) | exact decide_eq_true (by omega)), rfl⟩
  have kd5 : (tag == 5) = false := by simp [k5]
  by_cases k6 : tag = 6
  · subst k6
    have hn := name_any A m c l w HR.out
    have hres : plainOk 6 l = nameOk l := by simp [plainOk]
    have HN := Lib.hid hres
    clear hres
    go_wp2_with fail
    refine hn.mono ?_
    rintro e w1 ⟨rfl, rfl⟩
    go_wp2_with fail
    go_ret
    exact ⟨by rw [HN.out]; rfl, rfl⟩
  have kd6 : (tag == 6) = false := by simp [k6]
  have hres : plainOk tag l = false := by simp [plainOk, k2, k3, k4, k5, k6]
  have HN := Lib.hid hres
  clear hres
  go_wp2_with fail
  go_ret
  exact ⟨by rw [HN.out]; first | rfl | (refine congrArg Ending.returned (congrArg Value.bool ?_); first | exact decide_eq_false (by omega) | exact decide_eq_true (by omega)), rfl⟩

/-- The reference's test of a name: no byte 128 at a number's begin. -/
theorem nameGo_at : ∀ (l : List UInt8) (b : Bool), nameGo b l = none ↔ ∃ i : Nat, l[i]? = some 128 ∧ ((i = 0 ∧ b = true) ∨ ∃ (j : Nat) (y : UInt8), i = j + 1 ∧ l[j]? = some y ∧ y < 128)
  | [], b => by simp [nameGo]
  | x :: l, b => by
    unfold nameGo
    by_cases h : (b && x == 128) = true
    · rw [if_pos h]
      simp only [Bool.and_eq_true, beq_iff_eq] at h
      exact ⟨fun _ => ⟨0, by simp [h.2], .inl ⟨rfl, h.1⟩⟩, fun _ => rfl⟩
    · rw [if_neg h, nameGo_at l]
      simp only [Bool.and_eq_true, beq_iff_eq, not_and] at h
      constructor
      · rintro ⟨i, hi, ⟨h0, h1⟩ | ⟨j, y, rfl, hj, hy⟩⟩
        · subst h0; exact ⟨1, by simpa using hi, .inr ⟨0, x, rfl, by simp, of_decide_eq_true h1⟩⟩
        · exact ⟨j + 2, by simpa using hi, .inr ⟨j + 1, y, rfl, by simpa using hj, hy⟩⟩
      · rintro ⟨i, hi, ⟨h0, h1⟩ | ⟨j, y, rfl, hj, hy⟩⟩
        · subst h0; simp at hi; exact absurd hi (h h1)
        · cases j with
          | zero => simp at hj; subst hj; exact ⟨0, by simpa using hi, .inl ⟨rfl, decide_eq_true hy⟩⟩
          | succ j => exact ⟨j + 1, by simpa using hi, .inr ⟨j, y, rfl, by simpa using hj, hy⟩⟩
theorem nameGo_some : ∀ (l : List UInt8) (b e : Bool), nameGo b l = some e → e = match l.getLast? with | none => b | some y => decide (y < 128)
  | [], b, e, h => by injection h with h; exact h.symm
  | [x], b, e, h => by
    unfold nameGo at h
    split at h
    · cases h
    · injection h with h; exact h.symm
  | x :: y :: l, b, e, h => by
    unfold nameGo at h
    split at h
    · cases h
    · have := nameGo_some (y :: l) _ _ h
      rw [this, List.getLast?_cons_cons]
      cases hq : (y :: l).getLast? with
      | none => simp at hq
      | some z => rfl
end Go.Proofs.Ytgkhhinjdojbhaa
