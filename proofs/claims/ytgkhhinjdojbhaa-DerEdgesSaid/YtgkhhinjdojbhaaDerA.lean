/-
  DER: may the bytes of a node be? The program's and the reference's.
  DER: may the bytes of a node be? The whole test, the program's and the reference's.
  DER: the reference's test of a node's bytes.
-/
import Derived.Test.YtgkhhinjdojbhaaDerPE
import Derived.Test.YtgkhhinjdojbhaaRowE
import Derived.Test.YtgkhhinjdojbhaaLift
namespace Go.Proofs.Ytgkhhinjdojbhaa
open Go.RowKit

theorem Rd.byte {w : World} {A : Option Addr} {m c : Nat} {l : List UInt8} (h : Rd w A m c l) {k : Nat} {x : UInt8} (hx : l[k]? = some x) : ∃ g off, A = some ⟨g, off, none⟩ ∧ w.cell? ⟨g, off + k, none⟩ = some (.int .u8 (x.toNat : Int)) := by
  obtain ⟨hk, rfl⟩ := List.getElem?_eq_some_iff.1 hx
  obtain ⟨b, off, hA, hat⟩ := h.addr (by have := h.1; omega)
  exact ⟨b, off, hA, hat.cell hk⟩
theorem nameGo_step {b : Bool} {l : List UInt8} {k : Nat} {x : UInt8} (hx : l[k]? = some x) : nameGo b (l.drop k) = if b && x == 128 then none else nameGo (decide (x < 128)) (l.drop (k + 1)) := by
  obtain ⟨hk, rfl⟩ := List.getElem?_eq_some_iff.1 hx
  rw [List.drop_eq_getElem_cons hk]; rfl
theorem u8_eq (x y : UInt8) : (x = y) ↔ (x.toNat : Int) = y.toNat := by rw [← UInt8.toNat_inj]; omega
theorem u8_lt (x y : UInt8) : (x < y) ↔ (x.toNat : Int) < y.toNat := by rw [UInt8.lt_iff_toNat_lt]; omega
theorem u8_eq128 (x : UInt8) : (x = 128) ↔ (x.toNat : Int) = 128 := by rw [← UInt8.toNat_inj]; show x.toNat = 128 ↔ _; omega
theorem u8_lt128 (x : UInt8) : (x < 128) ↔ (x.toNat : Int) < 128 := by rw [UInt8.lt_iff_toNat_lt]; show x.toNat < 128 ↔ _; omega
set_option maxHeartbeats 1000000 in
theorem name_any (A : Option Addr) (m c : Nat) (l : List UInt8) (w : World) (h : Rd w A m c l) :
    Calls Try.prog 61 #[.slice A m c] w fun e w' => e = .returned (.bool (nameOk l)) ∧ w = w' := by
  have hml : l.length = m := by have := h.1; omega
  have hmax : (m : Int) ≤ 9223372036854775807 := by have := h.2.1; have := h.2.2.1; unfold maxLen at *; omega
  have HR := Lib.hid h
  clear h
  go_enter Try.func61, Try.ntmps61
  go_wp2_with fail
  go_loop [3, 8] (fun bb kk => ∃ (b : Bool) (k : Nat), k ≤ m ∧ bb = .bool b ∧ kk = .int .i64 (k : Int) ∧ nameGo b (l.drop k) = nameGo true l) (fun _ kk => m - (intOf kk).toNat)
  case atStart => exact ⟨true, 0, by omega, rfl, rfl, rfl⟩
  case round =>
    obtain ⟨b, k, hk, rfl, rfl, hn⟩ := hrel
    by_cases hlt : k < m
    · have hlti : (k : Int) < m := by omega
      have hltd : decide ((k : Int) < (m : Int)) = true := decide_eq_true hlti
      have hk0 : ¬ ((k : Int) < 0) := by omega
      obtain ⟨x, hx⟩ : ∃ x, l[k]? = some x := ⟨_, List.getElem?_eq_getElem (by omega)⟩
      obtain ⟨g, off, rfl, hc⟩ := HR.out.byte hx
      rw [nameGo_step hx] at hn
      have HN := Lib.hid (And.intro hn hx)
      clear hn hx
      by_cases h128 : x = 128
      · subst h128
        cases b with
        | true =>
          have hres : nameOk l = false := by have := HN.out.1; simp at this; unfold nameOk; rw [← this]
          go_wp2_with fail
          go_ret
          exact ⟨by first | rfl | (rw [hres]; rfl), rfl⟩
        | false =>
          go_wp2_with fail
          go_round
          case measure => simp [intOf]; omega
          exact ⟨_, k + 1, by omega, rfl, by simp, by have := HN.out.1; simpa using this⟩
      · have hne : ¬ ((x.toNat : Int) = 128) := fun e => h128 ((u8_eq128 x).2 e)
        have hned : decide ((x.toNat : Int) = 128) = false := decide_eq_false hne
        have hn2 : nameGo (decide ((x.toNat : Int) < 128)) (l.drop (k + 1)) = nameGo true l := by
          have := HN.out.1
          rw [if_neg (by simp [h128])] at this
          exact (congrArg (fun z => nameGo z (l.drop (k + 1))) (decide_eq_decide.2 (u8_lt128 x).symm)).trans this
        have HN2 := Lib.hid hn2
        clear hn2
        cases b with
        | true =>
          go_wp2_with fail
          go_round
          case measure => simp [intOf]; omega
          exact ⟨_, k + 1, by omega, rfl, by simp, HN2.out⟩
        | false =>
          go_wp2_with fail
          go_round
          case measure => simp [intOf]; omega
          exact ⟨_, k + 1, by omega, rfl, by simp, HN2.out⟩
    · obtain rfl : k = m := by omega
      have hlti : ¬ (k : Int) < k := by omega
      rw [List.drop_of_length_le (by omega)] at hn
      have hres : nameOk l = (decide (0 < l.length) && b) := by unfold nameOk; rw [← hn]; rfl
      rw [hml] at hres
      have HN := Lib.hid hres
      clear hn hres
      by_cases h0 : 0 < k
      · have h0i : (0 : Int) < k := by omega
        have hres := HN.out
        rw [decide_eq_true h0, Bool.true_and] at hres
        have HN := Lib.hid hres
        clear hres
        go_wp2_with fail
        go_ret
        exact ⟨by rw [HN.out]; rfl, rfl⟩
      · obtain rfl : k = 0 := by omega
        have hres := HN.out
        simp at hres
        have HN := Lib.hid hres
        clear hres
        go_wp2_with fail
        go_ret
        exact ⟨by rw [HN.out]; rfl, rfl⟩
end Go.Proofs.Ytgkhhinjdojbhaa
namespace Go.Proofs.Ytgkhhinjdojbhaa
open Go.RowKit

theorem u8_pos (x : UInt8) : (0 < x) ↔ (0 : Int) < x.toNat := by rw [UInt8.lt_iff_toNat_lt]; show 0 < x.toNat ↔ _; omega
theorem u8_zero (x : UInt8) : (x = 0) ↔ (x.toNat : Int) = 0 := by rw [← UInt8.toNat_inj]; show x.toNat = 0 ↔ _; omega
theorem u8_ge128 (x : UInt8) : (128 ≤ x) ↔ (128 : Int) ≤ x.toNat := by rw [UInt8.le_iff_toNat_le]; show 128 ≤ x.toNat ↔ _; omega
set_option maxRecDepth 100000 in
set_option maxHeartbeats 4000000 in
theorem plain_any (tag : Int) (A : Option Addr) (m c : Nat) (l : List UInt8) (w : World) (h : Rd w A m c l) :
    Calls Try.prog 53 #[.int .i64 tag, .slice A m c] w fun e w' => e = .returned (.bool (plainOk tag l)) ∧ w = w' := by
  have hml : l.length = m := by have := h.1; omega
  have hmax : (m : Int) ≤ 9223372036854775807 := by have := h.2.1; have := h.2.2.1; unfold maxLen at *; omega
  have HR := Lib.hid h
  clear h
  go_enter Try.func53, Try.ntmps53
  by_cases k2 : tag = 2
  · subst k2
    cases l with
    | nil =>
      simp only [List.length_nil] at hml
      subst hml
      have hres : plainOk 2 [] = false := by simp [plainOk]
      have HN := Lib.hid hres
      clear hres
      try clear hx0
      try clear a3
      try clear a2
      try clear a1
      go_wp2_with fail
      go_ret
      exact ⟨by rw [HN.out]; first | rfl | (refine congrArg Ending.returned (congrArg Value.bool ?_); first | exact decide_eq_false (by omega) | exact decide_eq_true (by omega)), rfl⟩
    | cons x t =>
      have hm0 : 0 < m := by rw [← hml]; simp
      have hm0i : (0 : Int) < m := by omega
      have hmn : ¬ (m : Int) ≤ 0 := by omega
      obtain ⟨g, off, rfl, c0⟩ := HR.out.byte (k := 0) (x := x) rfl
      rw [Nat.add_zero] at c0
      by_cases a1 : x < 128
      · have i1 : (x.toNat : Int) < 128 := (u8_lt128 x).1 a1
        have d1 : decide ((x.toNat : Int) < 128) = true := decide_eq_true i1
        by_cases a2 : 0 < x
        · have i2 : (0 : Int) < x.toNat := (u8_pos x).1 a2
          have d2 : decide ((0 : Int) < x.toNat) = true := decide_eq_true i2
          have hres : plainOk 2 (x :: t) = true := by simp [plainOk, a1, a2]
          have HN := Lib.hid hres
          clear hres
          try clear hx0
          try clear a3
          try clear a2
          try clear a1
          go_wp2_with fail
          go_ret
          exact ⟨by rw [HN.out]; first | rfl | (refine congrArg Ending.returned (congrArg Value.bool ?_); first | exact decide_eq_false (by omega) | exact decide_eq_true (by omega)), rfl⟩
        · have i2 : ¬ (0 : Int) < x.toNat := fun e => a2 ((u8_pos x).2 e)
          have d2 : decide ((0 : Int) < x.toNat) = false := decide_eq_false i2
          have i3 : (x.toNat : Int) = 0 := by omega
          have d3 : decide ((x.toNat : Int) = 0) = true := decide_eq_true i3
          have hx0 : x = 0 := (u8_zero x).2 i3
          rw [i3] at c0
          cases t with
          | nil =>
            simp only [List.length_cons, List.length_nil] at hml
            subst hml
            have hres : plainOk 2 [x] = true := by simp [plainOk, hx0]
            have HN := Lib.hid hres
            clear hres
            try clear hx0
            try clear a3
            try clear a2
            try clear a1
            go_wp2_with fail
            go_ret
            exact ⟨by rw [HN.out]; first | rfl | (refine congrArg Ending.returned (congrArg Value.bool ?_); first | exact decide_eq_false (by omega) | exact decide_eq_true (by omega)), rfl⟩
          | cons y t =>
            have hm1 : ¬ ((m : Int) = 1) := by rw [← hml]; simp only [List.length_cons]; omega
            have hm1d : decide ((m : Int) = 1) = false := decide_eq_false hm1
            have hm1i : (1 : Int) < m := by omega
            obtain ⟨g', off', hA, c1⟩ := HR.out.byte (k := 1) (x := y) rfl
            cases hA
            by_cases a3 : 128 ≤ y
            · have i4 : (128 : Int) ≤ y.toNat := (u8_ge128 y).1 a3
              have d4 : decide ((128 : Int) ≤ y.toNat) = true := decide_eq_true i4
              have hres : plainOk 2 (x :: y :: t) = true := by simp [plainOk, a3, hx0]
              have HN := Lib.hid hres
              clear hres
              try clear hx0
              try clear a3
              try clear a2
              try clear a1
              go_wp2_with fail
              go_ret
              exact ⟨by rw [HN.out]; first | rfl | (refine congrArg Ending.returned (congrArg Value.bool ?_); first | exact decide_eq_false (by omega) | exact decide_eq_true (by omega)), rfl⟩
            · have i4 : ¬ (128 : Int) ≤ y.toNat := fun e => a3 ((u8_ge128 y).2 e)
              have d4 : decide ((128 : Int) ≤ y.toNat) = false := decide_eq_false i4
              have hres : plainOk 2 (x :: y :: t) = false := by simp [plainOk, a3, hx0]
              have HN := Lib.hid hres
              clear hres
              try clear hx0
              try clear a3
              try clear a2
              try clear a1
              go_wp2_with fail
              go_ret
              exact ⟨by rw [HN.out]; first | rfl | (refine congrArg Ending.returned (congrArg Value.bool ?_); first | exact decide_eq_false (by omega) | exact decide_eq_true (by omega)), rfl⟩
      · have i1 : ¬ (x.toNat : Int) < 128 := fun e => a1 ((u8_lt128 x).2 e)
        have d1 : decide ((x.toNat : Int) < 128) = false := decide_eq_false i1
        have hres : plainOk 2 (x :: t) = false := by simp [plainOk, a1]
        have HN := Lib.hid hres
        clear hres
        try clear hx0
        try clear a3
        try clear a2
        try clear a1
        go_wp2_with fail
        go_ret
        exact ⟨by rw [HN.out]; first | rfl | (refine congrArg Ending.returned (congrArg Value.bool ?_); first | exact decide_eq_false (by omega) | exact decide_eq_true (by omega)), rfl⟩
  have kd2 : (tag == 2) = false := by simp [k2]
  by_cases k3 : tag = 3
  · subst k3
    cases l with
    | nil =>
      simp only [List.length_nil] at hml
      subst hml
      have hres : plainOk 3 [] = false := by simp [plainOk]
      have HN := Lib.hid hres
      clear hres
      try clear hx0
      try clear a3
      try clear a2
      try clear a1
      go_wp2_with fail
      go_ret
      exact ⟨by rw [HN.out]; first | rfl | (refine congrArg Ending.returned (congrArg Value.bool ?_); first | exact decide_eq_false (by omega) | exact decide_eq_true (by omega)), rfl⟩
    | cons x t =>
      have hm0 : 0 < m := by rw [← hml]; simp
      have hm0i : (0 : Int) < m := by omega
      have hmn : ¬ (m : Int) ≤ 0 := by omega
      obtain ⟨g, off, rfl, c0⟩ := HR.out.byte (k := 0) (x := x) rfl
      rw [Nat.add_zero] at c0
      by_cases a1 : x = 0
      · have i3 : (x.toNat : Int) = 0 := (u8_zero x).1 a1
        rw [i3] at c0
        have hres : plainOk 3 (x :: t) = true := by simp [plainOk, a1]
        have HN := Lib.hid hres
        clear hres
        try clear hx0
        try clear a3
        try clear a2
        try clear a1
        go_wp2_with fail
        go_ret
        exact ⟨by rw [HN.out]; first | rfl | (refine congrArg Ending.returned (congrArg Value.bool ?_); first | exact decide_eq_false (by omega) | exact decide_eq_true (by omega)), rfl⟩
      · have i3 : ¬ ((x.toNat : Int) = 0) := fun e => a1 ((u8_zero x).2 e)
        have d3 : decide ((x.toNat : Int) = 0) = false := decide_eq_false i3
        have hres : plainOk 3 (x :: t) = false := by simp [plainOk, a1]
        have HN := Lib.hid hres
        clear hres
        try clear hx0
        try clear a3
        try clear a2
        try clear a1
        go_wp2_with fail
        go_ret
        exact ⟨by rw [HN.out]; first | rfl | (refine congrArg Ending.returned (congrArg Value.bool ?_); first | exact decide_eq_false (by omega) | exact decide_eq_true (by omega)), rfl⟩
  have kd3 : (tag == 3) = false := by simp [k3]
  by_cases k4 : tag = 4
  · subst k4
    have hres : plainOk 4 l = true := by simp [plainOk]
    have HN := Lib.hid hres
    clear hres
    try clear hx0
    try clear a3
    try clear a2
    try clear a1
    go_wp2_with fail
    go_ret
    exact ⟨by rw [HN.out]; first | rfl | (refine congrArg Ending.returned (congrArg Value.bool ?_); first | exact decide_eq_false (by omega) | exact decide_eq_true (by omega)), rfl⟩
  have kd4 : (tag == 4) = false := by simp [k4]
  by_cases k5 : tag = 5
  · subst k5
    by_cases a1 : m = 0
    · subst a1
      obtain rfl : l = [] := List.eq_nil_of_length_eq_zero hml
      have hres : plainOk 5 [] = true := by simp [plainOk]
      have HN := Lib.hid hres
      clear hres
      try clear hx0
      try clear a3
      try clear a2
      try clear a1
      go_wp2_with fail
      go_ret
      exact ⟨by rw [HN.out]; first | rfl | (refine congrArg Ending.returned (congrArg Value.bool ?_); first | exact decide_eq_false (by omega) | exact decide_eq_true (by omega)), rfl⟩
    · have i1 : ¬ ((m : Int) = 0) := by omega
      have d1 : decide ((m : Int) = 0) = false := decide_eq_false i1
      have hne : l ≠ [] := fun e => by subst e; simp at hml; omega
      have hres : plainOk 5 l = false := by simp [plainOk, hne]
      have HN := Lib.hid hres
      clear hres
      try clear hx0
      try clear a3
      try clear a2
      try clear a1
      go_wp2_with fail
      go_ret
      exact ⟨by rw [HN.out]; first | rfl | (refine congrArg Ending.returned (congrArg Value.bool ?_); first | exact decide_eq_false (by omega) | exact decide_eq_true (by omega)), rfl⟩
  have kd5 : (tag == 5) = false := by simp [k5]
  by_cases k6 : tag = 6
  · subst k6
    have hn := name_any A m c l w HR.out
    have hres : plainOk 6 l = nameOk l := by simp [plainOk]
    have HN := Lib.hid hres
    clear hres
    go_wp2_with fail
    refine hn.mono ?_
    rintro e w1 ⟨rfl, rfl⟩
    go_wp2_with fail
    go_ret
    exact ⟨by rw [HN.out]; rfl, rfl⟩
  have kd6 : (tag == 6) = false := by simp [k6]
  have hres : plainOk tag l = false := by simp [plainOk, k2, k3, k4, k5, k6]
  have HN := Lib.hid hres
  clear hres
  go_wp2_with fail
  go_ret
  exact ⟨by rw [HN.out]; first | rfl | (refine congrArg Ending.returned (congrArg Value.bool ?_); first | exact decide_eq_false (by omega) | exact decide_eq_true (by omega)), rfl⟩

/-- The reference's test of a name: no byte 128 at a number's begin. -/
theorem nameGo_at : ∀ (l : List UInt8) (b : Bool), nameGo b l = none ↔ ∃ i : Nat, l[i]? = some 128 ∧ ((i = 0 ∧ b = true) ∨ ∃ (j : Nat) (y : UInt8), i = j + 1 ∧ l[j]? = some y ∧ y < 128)
  | [], b => by simp [nameGo]
  | x :: l, b => by
    unfold nameGo
    by_cases h : (b && x == 128) = true
    · rw [if_pos h]
      simp only [Bool.and_eq_true, beq_iff_eq] at h
      exact ⟨fun _ => ⟨0, by simp [h.2], .inl ⟨rfl, h.1⟩⟩, fun _ => rfl⟩
    · rw [if_neg h, nameGo_at l]
      simp only [Bool.and_eq_true, beq_iff_eq, not_and] at h
      constructor
      · rintro ⟨i, hi, ⟨h0, h1⟩ | ⟨j, y, rfl, hj, hy⟩⟩
        · subst h0; exact ⟨1, by simpa using hi, .inr ⟨0, x, rfl, by simp, of_decide_eq_true h1⟩⟩
        · exact ⟨j + 2, by simpa using hi, .inr ⟨j + 1, y, rfl, by simpa using hj, hy⟩⟩
      · rintro ⟨i, hi, ⟨h0, h1⟩ | ⟨j, y, rfl, hj, hy⟩⟩
        · subst h0; simp at hi; exact absurd hi (h h1)
        · cases j with
          | zero => simp at hj; subst hj; exact ⟨0, by simpa using hi, .inl ⟨rfl, decide_eq_true hy⟩⟩
          | succ j => exact ⟨j + 1, by simpa using hi, .inr ⟨j, y, rfl, by simpa using hj, hy⟩⟩
theorem nameGo_some : ∀ (l : List UInt8) (b e : Bool), nameGo b l = some e → e = match l.getLast? with | none => b | some y => decide (y < 128)
  | [], b, e, h => by injection h with h; exact h.symm
  | [x], b, e, h => by
    unfold nameGo at h
    split at h
    · cases h
    · injection h with h; exact h.symm
  | x :: y :: l, b, e, h => by
    unfold nameGo at h
    split at h
    · cases h
    · have := nameGo_some (y :: l) _ _ h
      rw [this, List.getLast?_cons_cons]
      cases hq : (y :: l).getLast? with
      | none => simp at hq
      | some z => rfl
end Go.Proofs.Ytgkhhinjdojbhaa
namespace Go.Proofs.Ytgkhhinjdojbhaa
open Go.RowKit

theorem ref_name {l : List UInt8} {z : UInt8} (hl : l.getLast? = some z) (h : ∀ i : Nat, l[i]? = some 128 → i ≠ 0 ∧ ∀ (j : Nat) (y : UInt8), i = j + 1 → l[j]? = some y → ¬ y < 128) : nameOk l = decide (z < 128) := by
  unfold nameOk
  cases hn : nameGo true l with
  | none =>
    obtain ⟨i, hi, h2⟩ := (nameGo_at l true).1 hn
    obtain ⟨h3, h4⟩ := h i hi
    rcases h2 with ⟨h0, _⟩ | ⟨j, y, he, hj, hy⟩
    · exact absurd h0 h3
    · exact absurd hy (h4 j y he hj)
  | some e =>
    have he := nameGo_some l true e hn
    rw [hl] at he
    have h0 : 0 < l.length := by cases l with | nil => simp at hl | cons x t => simp
    simp only [h0, decide_true, Bool.true_and]
    exact he
theorem ref_name_bad {l : List UInt8} {i : Nat} (hi : l[i]? = some 128) (h : i = 0 ∨ ∃ (j : Nat) (y : UInt8), i = j + 1 ∧ l[j]? = some y ∧ y < 128) : nameOk l = false := by
  unfold nameOk
  rw [(nameGo_at l true).2 ⟨i, hi, h.imp (fun h => ⟨h, rfl⟩) id⟩]
theorem ref_name_last {l : List UInt8} {z : UInt8} (hl : l.getLast? = some z) (hz : ¬ z < 128) : nameOk l = false := by
  unfold nameOk
  cases hn : nameGo true l with
  | none => rfl
  | some e =>
    have he := nameGo_some l true e hn
    rw [hl] at he
    simp only [he, decide_eq_false hz, Bool.and_false]
set_option maxRecDepth 100000 in
set_option maxHeartbeats 8000000 in
theorem content_any (tag : Int) (A : Option Addr) (m c : Nat) (l : List UInt8) (w : World) (h : Rd w A m c l) :
    Calls Try.prog 54 #[.int .i64 tag, .slice A m c] w fun e w' => e = .returned (.bool (plainOk tag l)) ∧ w = w' := by
  have hml : l.length = m := by have := h.1; omega
  have hmax : (m : Int) ≤ 9223372036854775807 := by have := h.2.1; have := h.2.2.1; unfold maxLen at *; omega
  have HR := Lib.hid h
  clear h
  go_enter Try.func54, Try.ntmps54
  by_cases k2 : tag = 2
  · subst k2
    cases l with
    | nil =>
      simp only [List.length_nil] at hml
      subst hml
      have hres : plainOk 2 [] = false := by simp [plainOk]
      have HN := Lib.hid hres
      clear hres
      try clear hx0
      try clear a3
      try clear a2
      try clear a1
      go_wp2_with fail
      go_ret
      exact ⟨by rw [HN.out]; first | rfl | (refine congrArg Ending.returned (congrArg Value.bool ?_); first | exact decide_eq_false (by omega) | exact decide_eq_true (by omega)), rfl⟩
    | cons x t =>
      have hm0 : 0 < m := by rw [← hml]; simp
      have hm0i : (0 : Int) < m := by omega
      have hmn : ¬ (m : Int) ≤ 0 := by omega
      obtain ⟨g, off, rfl, c0⟩ := HR.out.byte (k := 0) (x := x) rfl
      rw [Nat.add_zero] at c0
      by_cases a1 : x < 128
      · have i1 : (x.toNat : Int) < 128 := (u8_lt128 x).1 a1
        have d1 : decide ((x.toNat : Int) < 128) = true := decide_eq_true i1
        by_cases a2 : 0 < x
        · have i2 : (0 : Int) < x.toNat := (u8_pos x).1 a2
          have d2 : decide ((0 : Int) < x.toNat) = true := decide_eq_true i2
          have i3 : ¬ ((x.toNat : Int) = 0) := by omega
          have d3 : decide ((x.toNat : Int) = 0) = false := decide_eq_false i3
          have hres : plainOk 2 (x :: t) = true := by simp [plainOk, a1, a2]
          have HN := Lib.hid hres
          clear hres
          try clear hx0
          try clear a3
          try clear a2
          try clear a1
          go_wp2_with fail
          go_ret
          exact ⟨by rw [HN.out]; first | rfl | (refine congrArg Ending.returned (congrArg Value.bool ?_); first | exact decide_eq_false (by omega) | exact decide_eq_true (by omega)), rfl⟩
        · have i2 : ¬ (0 : Int) < x.toNat := fun e => a2 ((u8_pos x).2 e)
          have d2 : decide ((0 : Int) < x.toNat) = false := decide_eq_false i2
          have i3 : (x.toNat : Int) = 0 := by omega
          have d3 : decide ((x.toNat : Int) = 0) = true := decide_eq_true i3
          have hx0 : x = 0 := (u8_zero x).2 i3
          rw [i3] at c0
          cases t with
          | nil =>
            simp only [List.length_cons, List.length_nil] at hml
            subst hml
            have hres : plainOk 2 [x] = true := by simp [plainOk, hx0]
            have HN := Lib.hid hres
            clear hres
            try clear hx0
            try clear a3
            try clear a2
            try clear a1
            go_wp2_with fail
            go_ret
            exact ⟨by rw [HN.out]; first | rfl | (refine congrArg Ending.returned (congrArg Value.bool ?_); first | exact decide_eq_false (by omega) | exact decide_eq_true (by omega)), rfl⟩
          | cons y t =>
            have hm1 : ¬ ((m : Int) = 1) := by rw [← hml]; simp only [List.length_cons]; omega
            have hm1d : decide ((m : Int) = 1) = false := decide_eq_false hm1
            have hm1i : (1 : Int) < m := by omega
            obtain ⟨g', off', hA, c1⟩ := HR.out.byte (k := 1) (x := y) rfl
            cases hA
            by_cases a3 : 128 ≤ y
            · have i4 : (128 : Int) ≤ y.toNat := (u8_ge128 y).1 a3
              have d4 : decide ((128 : Int) ≤ y.toNat) = true := decide_eq_true i4
              have hres : plainOk 2 (x :: y :: t) = true := by simp [plainOk, a3, hx0]
              have HN := Lib.hid hres
              clear hres
              try clear hx0
              try clear a3
              try clear a2
              try clear a1
              go_wp2_with fail
              go_ret
              exact ⟨by rw [HN.out]; first | rfl | (refine congrArg Ending.returned (congrArg Value.bool ?_); first | exact decide_eq_false (by omega) | exact decide_eq_true (by omega)), rfl⟩
            · have i4 : ¬ (128 : Int) ≤ y.toNat := fun e => a3 ((u8_ge128 y).2 e)
              have d4 : decide ((128 : Int) ≤ y.toNat) = false := decide_eq_false i4
              have hres : plainOk 2 (x :: y :: t) = false := by simp [plainOk, a3, hx0]
              have HN := Lib.hid hres
              clear hres
              try clear hx0
              try clear a3
              try clear a2
              try clear a1
              go_wp2_with fail
              go_ret
              exact ⟨by rw [HN.out]; first | rfl | (refine congrArg Ending.returned (congrArg Value.bool ?_); first | exact decide_eq_false (by omega) | exact decide_eq_true (by omega)), rfl⟩
      · have i1 : ¬ (x.toNat : Int) < 128 := fun e => a1 ((u8_lt128 x).2 e)
        have d1 : decide ((x.toNat : Int) < 128) = false := decide_eq_false i1
        have hres : plainOk 2 (x :: t) = false := by simp [plainOk, a1]
        have HN := Lib.hid hres
        clear hres
        try clear hx0
        try clear a3
        try clear a2
        try clear a1
        go_wp2_with fail
        go_ret
        exact ⟨by rw [HN.out]; first | rfl | (refine congrArg Ending.returned (congrArg Value.bool ?_); first | exact decide_eq_false (by omega) | exact decide_eq_true (by omega)), rfl⟩
  have kd2 : (tag == 2) = false := by simp [k2]
  by_cases k3 : tag = 3
  · subst k3
    cases l with
    | nil =>
      simp only [List.length_nil] at hml
      subst hml
      have hres : plainOk 3 [] = false := by simp [plainOk]
      have HN := Lib.hid hres
      clear hres
      try clear hx0
      try clear a3
      try clear a2
      try clear a1
      go_wp2_with fail
      go_ret
      exact ⟨by rw [HN.out]; first | rfl | (refine congrArg Ending.returned (congrArg Value.bool ?_); first | exact decide_eq_false (by omega) | exact decide_eq_true (by omega)), rfl⟩
    | cons x t =>
      have hm0 : 0 < m := by rw [← hml]; simp
      have hm0i : (0 : Int) < m := by omega
      have hmn : ¬ (m : Int) ≤ 0 := by omega
      obtain ⟨g, off, rfl, c0⟩ := HR.out.byte (k := 0) (x := x) rfl
      rw [Nat.add_zero] at c0
      by_cases a1 : x = 0
      · have i3 : (x.toNat : Int) = 0 := (u8_zero x).1 a1
        rw [i3] at c0
        have hres : plainOk 3 (x :: t) = true := by simp [plainOk, a1]
        have HN := Lib.hid hres
        clear hres
        try clear hx0
        try clear a3
        try clear a2
        try clear a1
        go_wp2_with fail
        go_ret
        exact ⟨by rw [HN.out]; first | rfl | (refine congrArg Ending.returned (congrArg Value.bool ?_); first | exact decide_eq_false (by omega) | exact decide_eq_true (by omega)), rfl⟩
      · have i3 : ¬ ((x.toNat : Int) = 0) := fun e => a1 ((u8_zero x).2 e)
        have d3 : decide ((x.toNat : Int) = 0) = false := decide_eq_false i3
        have hres : plainOk 3 (x :: t) = false := by simp [plainOk, a1]
        have HN := Lib.hid hres
        clear hres
        try clear hx0
        try clear a3
        try clear a2
        try clear a1
        go_wp2_with fail
        go_ret
        exact ⟨by rw [HN.out]; first | rfl | (refine congrArg Ending.returned (congrArg Value.bool ?_); first | exact decide_eq_false (by omega) | exact decide_eq_true (by omega)), rfl⟩
  have kd3 : (tag == 3) = false := by simp [k3]
  by_cases k4 : tag = 4
  · subst k4
    have hres : plainOk 4 l = true := by simp [plainOk]
    have HN := Lib.hid hres
    clear hres
    try clear hx0
    try clear a3
    try clear a2
    try clear a1
    go_wp2_with fail
    go_ret
    exact ⟨by rw [HN.out]; first | rfl | (refine congrArg Ending.returned (congrArg Value.bool ?_); first | exact decide_eq_false (by omega) | exact decide_eq_true (by omega)), rfl⟩
  have kd4 : (tag == 4) = false := by simp [k4]
  by_cases k5 : tag = 5
  · subst k5
    by_cases a1 : m = 0
    · subst a1
      obtain rfl : l = [] := List.eq_nil_of_length_eq_zero hml
      have hres : plainOk 5 [] = true := by simp [plainOk]
      have HN := Lib.hid hres
      clear hres
      try clear hx0
      try clear a3
      try clear a2
      try clear a1
      go_wp2_with fail
      go_ret
      exact ⟨by rw [HN.out]; first | rfl | (refine congrArg Ending.returned (congrArg Value.bool ?_); first | exact decide_eq_false (by omega) | exact decide_eq_true (by omega)), rfl⟩
    · have i1 : ¬ ((m : Int) = 0) := by omega
      have d1 : decide ((m : Int) = 0) = false := decide_eq_false i1
      have hne : l ≠ [] := fun e => by subst e; simp at hml; omega
      have hres : plainOk 5 l = false := by simp [plainOk, hne]
      have HN := Lib.hid hres
      clear hres
      try clear hx0
      try clear a3
      try clear a2
      try clear a1
      go_wp2_with fail
      go_ret
      exact ⟨by rw [HN.out]; first | rfl | (refine congrArg Ending.returned (congrArg Value.bool ?_); first | exact decide_eq_false (by omega) | exact decide_eq_true (by omega)), rfl⟩
  have kd5 : (tag == 5) = false := by simp [k5]
  by_cases k6 : tag = 6
  · subst k6
    by_cases a1 : m = 0
    · subst a1
      obtain rfl : l = [] := List.eq_nil_of_length_eq_zero hml
      have hres : plainOk 6 [] = false := by rfl
      have HN := Lib.hid hres
      clear hres
      go_wp2_with fail
      go_ret
      exact ⟨by rw [HN.out]; first | rfl | (refine congrArg Ending.returned (congrArg Value.bool ?_); first | exact decide_eq_false (by omega) | exact decide_eq_true (by omega)), rfl⟩
    have i0 : ¬ ((m : Int) = 0) := by omega
    have d0 : decide ((m : Int) = 0) = false := decide_eq_false i0
    have hp6 : plainOk 6 l = nameOk l := by simp [plainOk]
    have HP := Lib.hid hp6
    clear hp6
    obtain ⟨z, hz⟩ : ∃ z, l[m - 1]? = some z := ⟨_, List.getElem?_eq_getElem (by omega)⟩
    have hlast : l.getLast? = some z := by rw [List.getLast?_eq_getElem?, hml]; exact hz
    obtain ⟨g, off, rfl, c0⟩ := HR.out.byte hz
    have hm1 : ((m : Int) - 1) = ((m - 1 : Nat) : Int) := by omega
    have hm1n : ¬ ((m : Int) - 1 < 0) := by omega
    have hm1l : ((m : Int) - 1 < m) := by omega
    have ht1 : ((m : Int) - 1).toNat = m - 1 := by omega
    have HZ := Lib.hid (And.intro hz hlast)
    clear hz hlast
    by_cases b1 : z < 128
    · have i1 : ¬ (128 : Int) ≤ z.toNat := by have := (u8_lt128 z).1 b1; omega
      have d1 : decide ((128 : Int) ≤ z.toNat) = false := decide_eq_false i1
      have HB := Lib.hid b1
      clear b1
      go_wp2_with fail
      go_loop [6] (fun kk => ∃ k : Nat, k ≤ m ∧ kk = .int .i64 (k : Int) ∧ ∀ i : Nat, i < k → l[i]? = some 128 → i ≠ 0 ∧ ∀ (j : Nat) (y : UInt8), i = j + 1 → l[j]? = some y → ¬ y < 128) (fun kk => m - (intOf kk).toNat)
      case atStart => exact ⟨0, by omega, rfl, fun i h => absurd h (Nat.not_lt_zero i)⟩
      case round =>
        obtain ⟨k, hk, rfl, hn⟩ := hrel
        have HN := Lib.hid hn
        clear hn
        by_cases hlt : k < m
        · have hlti : (k : Int) < m := by omega
          have hltd : decide ((k : Int) < (m : Int)) = true := decide_eq_true hlti
          have hk0 : ¬ ((k : Int) < 0) := by omega
          obtain ⟨x, hx⟩ : ∃ x, l[k]? = some x := ⟨_, List.getElem?_eq_getElem (by omega)⟩
          obtain ⟨g', off', hA, cx⟩ := HR.out.byte hx
          cases hA
          have HX := Lib.hid hx
          clear hx
          by_cases h128 : x = 128
          · have i2 : (x.toNat : Int) = 128 := (u8_eq128 x).1 h128
            rw [i2] at cx
            have HE := Lib.hid h128
            clear h128
            by_cases hk00 : k = 0
            · have hres : nameOk l = false := ref_name_bad (i := k) (by rw [← HE.out]; exact HX.out) (.inl hk00)
              subst hk00
              rw [Nat.add_zero] at cx
              have HN2 := Lib.hid (HP.out.trans hres)
              clear hres
              go_wp2_with fail
              go_ret
              exact ⟨by rw [HN2.out]; rfl, rfl⟩
            · have i3 : ¬ ((k : Int) = 0) := by omega
              have d3 : decide ((k : Int) = 0) = false := decide_eq_false i3
              obtain ⟨y, hy⟩ : ∃ y, l[k - 1]? = some y := ⟨_, List.getElem?_eq_getElem (by omega)⟩
              obtain ⟨g', off', hA, cy⟩ := HR.out.byte hy
              cases hA
              have hkn : ¬ ((k : Int) - 1 < 0) := by omega
              have hkl : ((k : Int) - 1 < m) := by omega
              have hkt : ((k : Int) - 1).toNat = k - 1 := by omega
              have HY := Lib.hid hy
              clear hy
              by_cases hy128 : y < 128
              · have i4 : (y.toNat : Int) < 128 := (u8_lt128 y).1 hy128
                have d4 : decide ((y.toNat : Int) < 128) = true := decide_eq_true i4
                have hres : nameOk l = false := ref_name_bad (i := k) (by rw [← HE.out]; exact HX.out) (.inr ⟨k - 1, y, by omega, HY.out, hy128⟩)
                have HN2 := Lib.hid (HP.out.trans hres)
                clear hres hy128
                go_wp2_with fail
                go_ret
                exact ⟨by rw [HN2.out]; rfl, rfl⟩
              · have i4 : ¬ (y.toNat : Int) < 128 := fun e => hy128 ((u8_lt128 y).2 e)
                have d4 : decide ((y.toNat : Int) < 128) = false := decide_eq_false i4
                have HQ := Lib.hid hy128
                clear hy128
                go_wp2_with fail
                go_round
                case measure => simp [intOf]; omega
                exact ⟨k + 1, by omega, by simp, fun i hi h => by
                  rcases Nat.lt_succ_iff_lt_or_eq.1 hi with h1 | rfl
                  · exact HN.out i h1 h
                  · exact ⟨hk00, fun j y' he hj hyy => HQ.out (by rw [show i - 1 = j by omega] at HY; have e := HY.out; rw [hj] at e; injection e with e; rw [← e]; exact hyy)⟩⟩
          · have i2 : ¬ ((x.toNat : Int) = 128) := fun e => h128 ((u8_eq128 x).2 e)
            have d2 : decide ((x.toNat : Int) = 128) = false := decide_eq_false i2
            have HE := Lib.hid h128
            clear h128
            go_wp2_with fail
            go_round
            case measure => simp [intOf]; omega
            exact ⟨k + 1, by omega, by simp, fun i hi h => by
              rcases Nat.lt_succ_iff_lt_or_eq.1 hi with h1 | rfl
              · exact HN.out i h1 h
              · rw [HX.out] at h; injection h with h; exact absurd h HE.out⟩
        · obtain rfl : k = m := by omega
          have hlti : ¬ (k : Int) < k := by omega
          have hres : nameOk l = true := by
            rw [ref_name HZ.out.2 (fun i hi => HN.out i (by have := (List.getElem?_eq_some_iff.1 hi).1; omega) hi)]; exact decide_eq_true HB.out
          have HN2 := Lib.hid (HP.out.trans hres)
          clear hres
          go_wp2_with fail
          go_ret
          exact ⟨by rw [HN2.out]; rfl, rfl⟩
    · have i1 : (128 : Int) ≤ z.toNat := by have : ¬ (z.toNat : Int) < 128 := fun e => b1 ((u8_lt128 z).2 e); omega
      have d1 : decide ((128 : Int) ≤ z.toNat) = true := decide_eq_true i1
      have hres : nameOk l = false := ref_name_last HZ.out.2 b1
      have HN := Lib.hid (HP.out.trans hres)
      clear hres b1
      go_wp2_with fail
      go_ret
      exact ⟨by rw [HN.out]; rfl, rfl⟩
  have kd6 : (tag == 6) = false := by simp [k6]
  have hres : plainOk tag l = false := by simp [plainOk, k2, k3, k4, k5, k6]
  have HN := Lib.hid hres
  clear hres
  go_wp2_with fail
  go_ret
  exact ⟨by rw [HN.out]; first | rfl | (refine congrArg Ending.returned (congrArg Value.bool ?_); first | exact decide_eq_false (by omega) | exact decide_eq_true (by omega)), rfl⟩
end Go.Proofs.Ytgkhhinjdojbhaa
