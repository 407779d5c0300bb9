/-
  Modes: the block of two lengths; bytes filled up to whole blocks.
  Slice expressions on bytes, whatever the slice (nil too). Contract of baileylaw3.Short.
  AES, plainly: decrypting undoes encrypting.
-/
import Derived.Test.YtiocmebcbhbcmaaZzAppZ
import Derived.Test.YtiocmebcbhbcmaaZzAesY
import Derived.Test.YtiocmebcbhbcmaaZzReg
import Derived.Test.YtiocmebcbhbcmaaZzRot
namespace Go.Proofs.Ytiocmebcbhbcmaa
set_option maxRecDepth 100000
open Go.RowKit

def lenL (a b : Nat) : List UInt8 := bytes64 (UInt64.ofNat (a * 8)) ++ bytes64 (UInt64.ofNat (b * 8))
theorem lengths_any (a b : Nat) (w : World) (ha : a ≤ 100000000) (hb : b ≤ 100000000) :
    Calls Try.prog 80 #[.int .i64 (a : Int), .int .i64 (b : Int)] w fun e w' => ∃ v, e = .returned v ∧ Own w' w.heap.size v (lenL a b) ∧ Below w.heap.size w w' := by
  have hu : ∀ n : Nat, n ≤ 100000000 → U64 (UInt64.ofNat (n * 8)) = .int .u64 ((n : Int) * 8) := fun n hn => by
    unfold U64
    congr 1
    simp
    omega
  have H1 := append64_any (.slice none 0 0) (UInt64.ofNat (a * 8)) [] w w.heap.size ⟨by simp, .inl ⟨rfl, rfl⟩⟩ (Nat.le_refl _) (by simp)
  rw [hu a ha] at H1
  go_enter Try.func80, Try.ntmps80
  go_wp2_with fail
  refine H1.mono ?_
  rintro e w1 ⟨v1, rfl, ho1, ht1, hv1⟩
  have hb1 : Below w.heap.size w w1 := below_turn (Below.refl _ _) ht1 (by simp [Value.ownBlock]) (Nat.le_refl _)
  have H2 := append64_any v1 (UInt64.ofNat (b * 8)) _ w1 w.heap.size ho1 ht1.size (by simp [bytes64])
  rw [hu b hb] at H2
  have HB := Lib.hid (And.intro ho1 hb1)
  clear H1 ho1 ht1 hv1 hb1
  go_wp2_with fail
  refine H2.mono ?_
  rintro e w2 ⟨v2, rfl, ho2, ht2, hv2⟩
  have hb2 : Below w.heap.size w w2 := below_turn HB.out.2 ht2 (fun g hg => (Own.lt HB.out.1 (by simpa using hg)).1) HB.out.2.size
  rw [List.nil_append] at ho2
  have HC := Lib.hid (And.intro ho2 hb2)
  clear H2 ho2 ht2 hv2 hb2
  go_wp2_with fail
  go_ret
  exact ⟨_, rfl, HC.out.1, HC.out.2⟩
theorem clone_own (A : Option Addr) (m c : Nat) (l : List UInt8) (w : World) (h : Rd w A m c l) (hm : m ≤ 100000000000) :
    Calls Try.prog 40 #[.slice A m c] w fun e w' => ∃ A' n' c', e = .returned (.slice A' n' c') ∧ Own w' w.heap.size (.slice A' n' c') l ∧ Below w.heap.size w w' := by
  obtain ⟨h1, h2, h3, ⟨rfl, hc⟩ | ⟨b, off, rfl, h4⟩⟩ := h
  · obtain rfl : m = 0 := by omega
    obtain rfl : l = [] := List.length_eq_zero_iff.1 h1.symm
    subst hc
    refine (clone_nil w).mono ?_
    rintro e w' ⟨rfl, rfl⟩
    exact ⟨_, _, _, rfl, Own.nil _ _, Below.refl _ _⟩
  · refine (clone_any b off m c l w h4 h1 (by omega)).mono ?_
    rintro e w' ⟨g, c', rfl, ho, hb⟩
    exact ⟨_, _, _, rfl, ho, hb⟩
theorem run_append_Z0 (w : World) (base : Nat) (ty : TypeId) (v : Value) (l : List UInt8) (hown : Own w base v l) :
    (Builtin.append_ #[22, 3] ty #[v, .int .i64 0]).run Try.prog w = .ok v w := by
  obtain ⟨i, hi, hz, hsz, hby⟩ := info_parts Try.infoU8
  have hw : IntKind.i64.wrap 0 = 0 := by decide
  rcases hown.2 with ⟨rfl, _⟩ | ⟨g, cap, cur, rfl, _, _, hnc, _⟩
  · simp [Builtin.append_, run_underlying Try.underlying22, run_underlying Try.underlying3, sizeOf, typeInfo, zeroValue, hi, hz, hsz, hby, asInt, asIntOf, hw, Builtin.lenOf, Builtin.firstCells, loadCells, loadCellsFrom]
  · simp [Builtin.append_, run_underlying Try.underlying22, run_underlying Try.underlying3, sizeOf, typeInfo, zeroValue, hi, hz, hsz, hby, asInt, asIntOf, hw, Builtin.lenOf, Builtin.firstCells, hnc, storeCells, loadCells, loadCellsFrom]
theorem wp_appZ0 {ops : Array Oper} {rest : List Oper} {o : Oper} {a : Act} {w : World} {Q : Exit → Act → World → Prop} (s x : Operand) (base : Nat) (v : Value) (l : List UInt8) (hown : Own w base v l) (hgd : o.guard = none)
    (ho : o.op = .call { callee := .builtin .append, args := #[s, x], argTypes := #[22, 3] }) (hs : a.eval s = v) (hx : a.eval x = .int .i64 0)
    (h : wpList Try.prog ops Q rest (a.put o.dst v) w) : wpList Try.prog ops Q (o :: rest) a w := by
  refine wpList_plain hgd fun K hK => ?_
  have hrun := run_append_Z0 w base o.type v l hown
  unfold Oper.wp
  simp only [execOp, ho, resolve, invoke, builtin, Sem.run_bind, Sem.run_pure, Result.andThen_ok, List.map_toArray, List.map_cons, List.map_nil, hs, hx, hrun]
  exact hK _ _ h
def padM (n : Nat) : Nat := (16 - n % 16) % 16
set_option maxHeartbeats 1000000 in
theorem filled_any (A : Option Addr) (m c : Nat) (b : List UInt8) (w : World) (h : Rd w A m c b) (hb : b.length ≤ 100000) :
    Calls Try.prog 48 #[.slice A m c] w fun e w' => ∃ A' n' c', e = .returned (.slice A' n' c') ∧ Own w' w.heap.size (.slice A' n' c') (b ++ zs (padM b.length)) ∧ Below w.heap.size w w' := by
  have hm := h.1
  have hp : padM m ≤ 15 := by unfold padM; omega
  have hpi : (16 - (m : Int) % 16) % 16 = (padM m : Int) := by unfold padM; omega
  have hm2 : m ≤ 100000 := by omega
  have H := Lib.hid (And.intro h hm)
  clear h hm
  go_enter Try.func48, Try.ntmps48
  go_wp2_with fail
  refine (clone_own A m c b w H.out.1 (by omega)).mono ?_
  rintro e w1 ⟨A1, n1, c1, rfl, ho, hB⟩
  have HO := Lib.hid (And.intro ho hB)
  clear ho hB
  by_cases hk : padM m = 0
  · have hpi0 : (16 - (m : Int) % 16) % 16 = 0 := by rw [hpi, hk]; rfl
    have hpi1 : -((m : Int) % 16) % 16 = 0 := by omega
    have hz : zs (padM b.length) = [] := by rw [← H.out.2, hk]; rfl
    have HZ := Lib.hid hz
    clear hpi hz hp hk
    go_wp2_with (at_builtin; refine wp_appZ0 _ _ w.heap.size (.slice A1 n1 c1) b HO.out.1 rfl rfl rfl (congrArg (Value.int .i64) hpi0) ?_)
    go_wp2_with fail
    go_ret
    refine ⟨_, _, _, rfl, ?_, HO.out.2⟩
    rw [HZ.out, List.append_nil]
    exact HO.out.1
  · have HP := Lib.hid hpi
    clear hpi
    go_wp2_with (at_builtin; refine wp_appZ _ _ w.heap.size (.slice A1 n1 c1) b HO.out.1 HO.out.2.size (padM m) (by omega) (by rw [← H.out.2]; omega) rfl rfl rfl (by rw [← HP.out]; rfl) ?_)
    intro A2 n2 c2 w2 hn2 hG
    have HG := Lib.hid hG
    clear hG
    go_wp2_with fail
    go_ret
    refine ⟨_, _, _, rfl, ?_, ?_⟩
    · rw [← H.out.2]
      exact HG.out.own
    · exact HO.out.2.trans HG.out.below
end Go.Proofs.Ytiocmebcbhbcmaa
namespace Go.Proofs.Ytiocmebcbhbcmaa
open Go.RowKit

theorem addr_add0 (A : Option Addr) (h : ∀ ad, A = some ad → ad.spot = none) : A.map (·.add 0) = A := by
  cases A with
  | none => rfl
  | some ad =>
    obtain ⟨b, off, spot⟩ := ad
    have := h _ rfl
    simp only at this
    subst this
    rfl
theorem Rd.spot {w : World} {A : Option Addr} {m c : Nat} {l : List UInt8} (h : Rd w A m c l) : ∀ ad, A = some ad → ad.spot = none := by
  obtain ⟨_, _, _, ⟨rfl, _⟩ | ⟨b, off, rfl, _⟩⟩ := h
  · intro ad h; cases h
  · intro ad h; cases h; rfl
theorem sz8 : (Try.prog.info? 5).map (·.size) = some 1 := by kernel_rfl
/-- x[:k] -/
theorem slice_to (A : Option Addr) (m c k : Nat) (hA : ∀ ad, A = some ad → ad.spot = none) (hk : k ≤ c) (w : World) : (Instr.slice 22 (.slice A m c) none (some (.int .i64 (k : Int))) none).run Try.prog w = .ok (.slice A k c) w := by
  obtain ⟨i, hi, hz⟩ : ∃ i, Try.prog.info? 5 = some i ∧ i.size = 1 := by
    cases h : Try.prog.info? 5 with
    | none => have := sz8; rw [h] at this; cases this
    | some i => exact ⟨i, rfl, by have := sz8; rw [h] at this; simpa using this⟩
  unfold Instr.slice
  simp [Sem.run_bind, run_underlying Try.underlying22 w, Instr.sliceBounds, Instr.sliceBound, asIntOf, sizeOf, typeInfo, hi]
  rw [if_pos hk, addr_add0 A hA]
  simp
/-- x[k:] -/
theorem slice_from (A : Option Addr) (m c k : Nat) (hk : k ≤ m) (w : World) : (Instr.slice 22 (.slice A m c) (some (.int .i64 (k : Int))) none none).run Try.prog w = .ok (.slice (if c = k then A else A.map (·.add k)) (m - k) (c - k)) w := by
  obtain ⟨i, hi, hz⟩ : ∃ i, Try.prog.info? 5 = some i ∧ i.size = 1 := by
    cases h : Try.prog.info? 5 with
    | none => have := sz8; rw [h] at this; cases this
    | some i => exact ⟨i, rfl, by have := sz8; rw [h] at this; simpa using this⟩
  have h1 : (0 : Int) ≤ k ∧ (k : Int) ≤ m := by omega
  unfold Instr.slice
  simp [Sem.run_bind, run_underlying Try.underlying22 w, Instr.sliceBounds, Instr.sliceBound, asIntOf, h1, sizeOf, typeInfo, hi, hz]
  intro h; omega
/-- x[k:j] -/
theorem slice_both (A : Option Addr) (m c k j : Nat) (hk : k ≤ j) (hj : j ≤ c) (w : World) : (Instr.slice 22 (.slice A m c) (some (.int .i64 (k : Int))) (some (.int .i64 (j : Int))) none).run Try.prog w = .ok (.slice (if c = k then A else A.map (·.add k)) (j - k) (c - k)) w := by
  obtain ⟨i, hi, hz⟩ : ∃ i, Try.prog.info? 5 = some i ∧ i.size = 1 := by
    cases h : Try.prog.info? 5 with
    | none => have := sz8; rw [h] at this; cases this
    | some i => exact ⟨i, rfl, by have := sz8; rw [h] at this; simpa using this⟩
  have h1 : (0 : Int) ≤ k ∧ (k : Int) ≤ j := by omega
  have h2 : (0 : Int) ≤ j ∧ (j : Int) ≤ c := by omega
  unfold Instr.slice
  simp [Sem.run_bind, run_underlying Try.underlying22 w, Instr.sliceBounds, Instr.sliceBound, asIntOf, h1, h2, sizeOf, typeInfo, hi, hz]
  rw [if_pos hj, if_pos hk]
theorem short_any (A : Option Addr) (m c n : Nat) (l : List UInt8) (w : World) (h : Rd w A m c l) (_hn : n ≤ 100000) :
    Calls Try.prog 12 #[.slice A m c, .int .i64 n] w fun e w' => e = .returned (.slice A (min m n) c) ∧ w = w' := by
  have hs := slice_to A m c n h.spot
  have h1 := h.2.1
  have h2 := h.2.2.1
  unfold maxLen at h2
  clear h
  rcases Nat.lt_or_ge n m with hlt | hge
  · have hli : (n : Int) < m := by omega
    have hs2 := hs (by omega)
    have hm : min m n = n := by omega
    have Hm := Lib.hid hm
    clear hm hs
    go_enter Try.func12, Try.ntmps12
    go_wp2
    go_ret
    exact ⟨by first | rfl | (rw [Hm.out]; rfl), rfl⟩
  · have hli : ¬ ((n : Int) < m) := by omega
    have hm : min m n = m := by omega
    have Hm := Lib.hid hm
    clear hm hs
    go_enter Try.func12, Try.ntmps12
    go_wp2
    go_ret
    exact ⟨by first | rfl | (rw [Hm.out]; rfl), rfl⟩
theorem Rd.short {w : World} {A : Option Addr} {m c n : Nat} {l : List UInt8} (h : Rd w A m c l) : Rd w A (min m n) c (l.take n) := by
  have h1 := h.front (k := min m n) (Nat.min_le_left _ _)
  have e : l.take (min m n) = l.take n := by
    have := h.1
    rw [this]
    rcases Nat.le_total l.length n with h | h
    · rw [Nat.min_eq_left h, List.take_of_length_le (Nat.le_refl _), List.take_of_length_le h]
    · rw [Nat.min_eq_right h]
  rwa [e] at h1
theorem Rd.cut_ex {w : World} {A : Option Addr} {m c k : Nat} {l : List UInt8} (h : Rd w A m c l) (hk : k ≤ m) :
    ∃ A' n' c', n' = m - k ∧ (∀ w, (Instr.slice 22 (.slice A m c) (some (.int .i64 (k : Int))) none none).run Try.prog w = .ok (.slice A' n' c') w) ∧ Rd w A' n' c' (l.drop k) :=
  ⟨_, _, _, rfl, slice_from A m c k hk, h.cut hk⟩
theorem Rd.cut_ex2 {w : World} {A : Option Addr} {m c k : Nat} {l : List UInt8} (h : Rd w A m c l) (hk : k ≤ m) :
    ∃ A' n' c', n' = m - k ∧ (∀ w, (Instr.slice 22 (.slice A m c) (some (.int .i64 (k : Int))) none none).run Try.prog w = .ok (.slice A' n' c') w) ∧ Rd w A' n' c' (l.drop k) ∧ (∀ ad', A' = some ad' → ∃ ad, A = some ad ∧ ad'.block = ad.block) := by
  refine ⟨_, _, _, rfl, slice_from A m c k hk, h.cut hk, ?_⟩
  intro ad' had
  split at had
  · exact ⟨ad', had, rfl⟩
  · cases A with
    | none => cases had
    | some ad =>
      simp only [Option.map_some, Option.some.injEq] at had
      refine ⟨ad, rfl, ?_⟩
      rw [← had]
      unfold Addr.add; split <;> rfl
end Go.Proofs.Ytiocmebcbhbcmaa
namespace Go.Proofs.Ytiocmebcbhbcmaa
set_option maxRecDepth 100000
open Go.RowKit

def gT : Nat → UInt8 → UInt8 → UInt8
  | 0, _, _ => 0
  | n + 1, a, f => (if f.toNat % 2 = 1 then a else 0) ^^^ gT n (tw a) (f >>> 1)
theorem gmF_acc (n : Nat) : ∀ (a f o : UInt8), gmF n a f o = o ^^^ gT n a f := by
  induction n with
  | zero => intro a f o; simp [gmF, gT]
  | succ n ih =>
    intro a f o
    unfold gmF gT
    rw [ih]
    split
    · rw [UInt8.xor_assoc]
    · simp
theorem sr7 (a : UInt8) : a >>> 7 = 0 ∨ a >>> 7 = 1 := by
  revert a; refine all8 ?_; decide +kernel
theorem tw_xor (a b : UInt8) : tw (a ^^^ b) = tw a ^^^ tw b := by
  have h1 : (a ^^^ b) <<< 1 = a <<< 1 ^^^ b <<< 1 := UInt8.shiftLeft_xor
  have h2 : (a ^^^ b) >>> 7 = a >>> 7 ^^^ b >>> 7 := UInt8.shiftRight_xor
  unfold tw
  rw [h1, h2]
  rcases sr7 a with e | e <;> rcases sr7 b with f | f <;> rw [e, f]
  · simp
  · simp [UInt8.xor_assoc]
  · simp [UInt8.xor_assoc]
    generalize a <<< 1 = x; generalize b <<< 1 = y
    rw [UInt8.xor_comm y]
  · generalize a <<< 1 = x; generalize b <<< 1 = y
    have : ((1:UInt8) ^^^ 1) * 27 = 0 := by decide
    rw [this]
    simp [UInt8.xor_assoc]
    rw [UInt8.xor_comm 27, UInt8.xor_assoc]; simp
theorem gT_xor (n : Nat) : ∀ (a b f : UInt8), gT n (a ^^^ b) f = gT n a f ^^^ gT n b f := by
  induction n with
  | zero => intro a b f; simp [gT]
  | succ n ih =>
    intro a b f
    unfold gT
    rw [tw_xor, ih]
    split
    · simp only [UInt8.xor_assoc]; congr 1; rw [← UInt8.xor_assoc, UInt8.xor_comm b, UInt8.xor_assoc]
    · simp
theorem gm_xor (a b f : UInt8) : gm (a ^^^ b) f = gm a f ^^^ gm b f := by
  unfold gm; rw [gmF_acc, gmF_acc, gmF_acc, gT_xor]; simp
theorem gm_zero (f : UInt8) : gm 0 f = 0 := by
  revert f; refine all8 ?_; decide +kernel
theorem mp_ed0 (x : UInt8) : gm (gm x 2) 14 ^^^ gm (gm x 1) 11 ^^^ gm (gm x 1) 13 ^^^ gm (gm x 3) 9 = x := by revert x; refine all8 ?_; decide +kernel
theorem mp_ed1 (x : UInt8) : gm (gm x 3) 14 ^^^ gm (gm x 2) 11 ^^^ gm (gm x 1) 13 ^^^ gm (gm x 1) 9 = 0 := by revert x; refine all8 ?_; decide +kernel
theorem mp_ed2 (x : UInt8) : gm (gm x 1) 14 ^^^ gm (gm x 3) 11 ^^^ gm (gm x 2) 13 ^^^ gm (gm x 1) 9 = 0 := by revert x; refine all8 ?_; decide +kernel
theorem mp_ed3 (x : UInt8) : gm (gm x 1) 14 ^^^ gm (gm x 1) 11 ^^^ gm (gm x 3) 13 ^^^ gm (gm x 2) 9 = 0 := by revert x; refine all8 ?_; decide +kernel
theorem mp_de0 (x : UInt8) : gm (gm x 14) 2 ^^^ gm (gm x 9) 3 ^^^ gm (gm x 13) 1 ^^^ gm (gm x 11) 1 = x := by revert x; refine all8 ?_; decide +kernel
theorem mp_de1 (x : UInt8) : gm (gm x 11) 2 ^^^ gm (gm x 14) 3 ^^^ gm (gm x 9) 1 ^^^ gm (gm x 13) 1 = 0 := by revert x; refine all8 ?_; decide +kernel
theorem mp_de2 (x : UInt8) : gm (gm x 13) 2 ^^^ gm (gm x 11) 3 ^^^ gm (gm x 14) 1 ^^^ gm (gm x 9) 1 = 0 := by revert x; refine all8 ?_; decide +kernel
theorem mp_de3 (x : UInt8) : gm (gm x 9) 2 ^^^ gm (gm x 13) 3 ^^^ gm (gm x 11) 1 ^^^ gm (gm x 14) 1 = 0 := by revert x; refine all8 ?_; decide +kernel
theorem mix_list (x0 x1 x2 x3 x4 x5 x6 x7 x8 x9 x10 x11 x12 x13 x14 x15 f0 f1 f2 f3 : UInt8) : mixN [x0, x1, x2, x3, x4, x5, x6, x7, x8, x9, x10, x11, x12, x13, x14, x15] [f0, f1, f2, f3] 4 =
    [0 ^^^ gm x0 f0 ^^^ gm x1 f1 ^^^ gm x2 f2 ^^^ gm x3 f3, 0 ^^^ gm x0 f3 ^^^ gm x1 f0 ^^^ gm x2 f1 ^^^ gm x3 f2, 0 ^^^ gm x0 f2 ^^^ gm x1 f3 ^^^ gm x2 f0 ^^^ gm x3 f1, 0 ^^^ gm x0 f1 ^^^ gm x1 f2 ^^^ gm x2 f3 ^^^ gm x3 f0,
     0 ^^^ gm x4 f0 ^^^ gm x5 f1 ^^^ gm x6 f2 ^^^ gm x7 f3, 0 ^^^ gm x4 f3 ^^^ gm x5 f0 ^^^ gm x6 f1 ^^^ gm x7 f2, 0 ^^^ gm x4 f2 ^^^ gm x5 f3 ^^^ gm x6 f0 ^^^ gm x7 f1, 0 ^^^ gm x4 f1 ^^^ gm x5 f2 ^^^ gm x6 f3 ^^^ gm x7 f0,
     0 ^^^ gm x8 f0 ^^^ gm x9 f1 ^^^ gm x10 f2 ^^^ gm x11 f3, 0 ^^^ gm x8 f3 ^^^ gm x9 f0 ^^^ gm x10 f1 ^^^ gm x11 f2, 0 ^^^ gm x8 f2 ^^^ gm x9 f3 ^^^ gm x10 f0 ^^^ gm x11 f1, 0 ^^^ gm x8 f1 ^^^ gm x9 f2 ^^^ gm x10 f3 ^^^ gm x11 f0,
     0 ^^^ gm x12 f0 ^^^ gm x13 f1 ^^^ gm x14 f2 ^^^ gm x15 f3, 0 ^^^ gm x12 f3 ^^^ gm x13 f0 ^^^ gm x14 f1 ^^^ gm x15 f2, 0 ^^^ gm x12 f2 ^^^ gm x13 f3 ^^^ gm x14 f0 ^^^ gm x15 f1, 0 ^^^ gm x12 f1 ^^^ gm x13 f2 ^^^ gm x14 f3 ^^^ gm x15 f0] := rfl
theorem mc_ed0 (a b c d : UInt8) : 0 ^^^ gm (0 ^^^ gm a 2 ^^^ gm b 3 ^^^ gm c 1 ^^^ gm d 1) 14 ^^^ gm (0 ^^^ gm a 1 ^^^ gm b 2 ^^^ gm c 3 ^^^ gm d 1) 11 ^^^ gm (0 ^^^ gm a 1 ^^^ gm b 1 ^^^ gm c 2 ^^^ gm d 3) 13 ^^^ gm (0 ^^^ gm a 3 ^^^ gm b 1 ^^^ gm c 1 ^^^ gm d 2) 9 = a := by
  simp only [gm_xor, gm_zero]
  have h0 : ∀ y : UInt8, 0 ^^^ y = y := fun y => by simp
  simp only [h0]
  refine Eq.trans (b := (gm (gm a 2) 14 ^^^ gm (gm a 1) 11 ^^^ gm (gm a 1) 13 ^^^ gm (gm a 3) 9) ^^^ (gm (gm b 3) 14 ^^^ gm (gm b 2) 11 ^^^ gm (gm b 1) 13 ^^^ gm (gm b 1) 9) ^^^ (gm (gm c 1) 14 ^^^ gm (gm c 3) 11 ^^^ gm (gm c 2) 13 ^^^ gm (gm c 1) 9) ^^^ (gm (gm d 1) 14 ^^^ gm (gm d 1) 11 ^^^ gm (gm d 3) 13 ^^^ gm (gm d 2) 9)) (by ac_rfl) ?_
  rw [mp_ed0, mp_ed1, mp_ed2, mp_ed3]
  simp
theorem mc_ed1 (a b c d : UInt8) : 0 ^^^ gm (0 ^^^ gm a 2 ^^^ gm b 3 ^^^ gm c 1 ^^^ gm d 1) 9 ^^^ gm (0 ^^^ gm a 1 ^^^ gm b 2 ^^^ gm c 3 ^^^ gm d 1) 14 ^^^ gm (0 ^^^ gm a 1 ^^^ gm b 1 ^^^ gm c 2 ^^^ gm d 3) 11 ^^^ gm (0 ^^^ gm a 3 ^^^ gm b 1 ^^^ gm c 1 ^^^ gm d 2) 13 = b := by
  simp only [gm_xor, gm_zero]
  have h0 : ∀ y : UInt8, 0 ^^^ y = y := fun y => by simp
  simp only [h0]
  refine Eq.trans (b := (gm (gm a 1) 14 ^^^ gm (gm a 1) 11 ^^^ gm (gm a 3) 13 ^^^ gm (gm a 2) 9) ^^^ (gm (gm b 2) 14 ^^^ gm (gm b 1) 11 ^^^ gm (gm b 1) 13 ^^^ gm (gm b 3) 9) ^^^ (gm (gm c 3) 14 ^^^ gm (gm c 2) 11 ^^^ gm (gm c 1) 13 ^^^ gm (gm c 1) 9) ^^^ (gm (gm d 1) 14 ^^^ gm (gm d 3) 11 ^^^ gm (gm d 2) 13 ^^^ gm (gm d 1) 9)) (by ac_rfl) ?_
  rw [mp_ed3, mp_ed0, mp_ed1, mp_ed2]
  simp
theorem mc_ed2 (a b c d : UInt8) : 0 ^^^ gm (0 ^^^ gm a 2 ^^^ gm b 3 ^^^ gm c 1 ^^^ gm d 1) 13 ^^^ gm (0 ^^^ gm a 1 ^^^ gm b 2 ^^^ gm c 3 ^^^ gm d 1) 9 ^^^ gm (0 ^^^ gm a 1 ^^^ gm b 1 ^^^ gm c 2 ^^^ gm d 3) 14 ^^^ gm (0 ^^^ gm a 3 ^^^ gm b 1 ^^^ gm c 1 ^^^ gm d 2) 11 = c := by
  simp only [gm_xor, gm_zero]
  have h0 : ∀ y : UInt8, 0 ^^^ y = y := fun y => by simp
  simp only [h0]
  refine Eq.trans (b := (gm (gm a 1) 14 ^^^ gm (gm a 3) 11 ^^^ gm (gm a 2) 13 ^^^ gm (gm a 1) 9) ^^^ (gm (gm b 1) 14 ^^^ gm (gm b 1) 11 ^^^ gm (gm b 3) 13 ^^^ gm (gm b 2) 9) ^^^ (gm (gm c 2) 14 ^^^ gm (gm c 1) 11 ^^^ gm (gm c 1) 13 ^^^ gm (gm c 3) 9) ^^^ (gm (gm d 3) 14 ^^^ gm (gm d 2) 11 ^^^ gm (gm d 1) 13 ^^^ gm (gm d 1) 9)) (by ac_rfl) ?_
  rw [mp_ed2, mp_ed3, mp_ed0, mp_ed1]
  simp
theorem mc_ed3 (a b c d : UInt8) : 0 ^^^ gm (0 ^^^ gm a 2 ^^^ gm b 3 ^^^ gm c 1 ^^^ gm d 1) 11 ^^^ gm (0 ^^^ gm a 1 ^^^ gm b 2 ^^^ gm c 3 ^^^ gm d 1) 13 ^^^ gm (0 ^^^ gm a 1 ^^^ gm b 1 ^^^ gm c 2 ^^^ gm d 3) 9 ^^^ gm (0 ^^^ gm a 3 ^^^ gm b 1 ^^^ gm c 1 ^^^ gm d 2) 14 = d := by
  simp only [gm_xor, gm_zero]
  have h0 : ∀ y : UInt8, 0 ^^^ y = y := fun y => by simp
  simp only [h0]
  refine Eq.trans (b := (gm (gm a 3) 14 ^^^ gm (gm a 2) 11 ^^^ gm (gm a 1) 13 ^^^ gm (gm a 1) 9) ^^^ (gm (gm b 1) 14 ^^^ gm (gm b 3) 11 ^^^ gm (gm b 2) 13 ^^^ gm (gm b 1) 9) ^^^ (gm (gm c 1) 14 ^^^ gm (gm c 1) 11 ^^^ gm (gm c 3) 13 ^^^ gm (gm c 2) 9) ^^^ (gm (gm d 2) 14 ^^^ gm (gm d 1) 11 ^^^ gm (gm d 1) 13 ^^^ gm (gm d 3) 9)) (by ac_rfl) ?_
  rw [mp_ed1, mp_ed2, mp_ed3, mp_ed0]
  simp
theorem mc_de0 (a b c d : UInt8) : 0 ^^^ gm (0 ^^^ gm a 14 ^^^ gm b 11 ^^^ gm c 13 ^^^ gm d 9) 2 ^^^ gm (0 ^^^ gm a 9 ^^^ gm b 14 ^^^ gm c 11 ^^^ gm d 13) 3 ^^^ gm (0 ^^^ gm a 13 ^^^ gm b 9 ^^^ gm c 14 ^^^ gm d 11) 1 ^^^ gm (0 ^^^ gm a 11 ^^^ gm b 13 ^^^ gm c 9 ^^^ gm d 14) 1 = a := by
  simp only [gm_xor, gm_zero]
  have h0 : ∀ y : UInt8, 0 ^^^ y = y := fun y => by simp
  simp only [h0]
  refine Eq.trans (b := (gm (gm a 14) 2 ^^^ gm (gm a 9) 3 ^^^ gm (gm a 13) 1 ^^^ gm (gm a 11) 1) ^^^ (gm (gm b 11) 2 ^^^ gm (gm b 14) 3 ^^^ gm (gm b 9) 1 ^^^ gm (gm b 13) 1) ^^^ (gm (gm c 13) 2 ^^^ gm (gm c 11) 3 ^^^ gm (gm c 14) 1 ^^^ gm (gm c 9) 1) ^^^ (gm (gm d 9) 2 ^^^ gm (gm d 13) 3 ^^^ gm (gm d 11) 1 ^^^ gm (gm d 14) 1)) (by ac_rfl) ?_
  rw [mp_de0, mp_de1, mp_de2, mp_de3]
  simp
theorem mc_de1 (a b c d : UInt8) : 0 ^^^ gm (0 ^^^ gm a 14 ^^^ gm b 11 ^^^ gm c 13 ^^^ gm d 9) 1 ^^^ gm (0 ^^^ gm a 9 ^^^ gm b 14 ^^^ gm c 11 ^^^ gm d 13) 2 ^^^ gm (0 ^^^ gm a 13 ^^^ gm b 9 ^^^ gm c 14 ^^^ gm d 11) 3 ^^^ gm (0 ^^^ gm a 11 ^^^ gm b 13 ^^^ gm c 9 ^^^ gm d 14) 1 = b := by
  simp only [gm_xor, gm_zero]
  have h0 : ∀ y : UInt8, 0 ^^^ y = y := fun y => by simp
  simp only [h0]
  refine Eq.trans (b := (gm (gm a 9) 2 ^^^ gm (gm a 13) 3 ^^^ gm (gm a 11) 1 ^^^ gm (gm a 14) 1) ^^^ (gm (gm b 14) 2 ^^^ gm (gm b 9) 3 ^^^ gm (gm b 13) 1 ^^^ gm (gm b 11) 1) ^^^ (gm (gm c 11) 2 ^^^ gm (gm c 14) 3 ^^^ gm (gm c 9) 1 ^^^ gm (gm c 13) 1) ^^^ (gm (gm d 13) 2 ^^^ gm (gm d 11) 3 ^^^ gm (gm d 14) 1 ^^^ gm (gm d 9) 1)) (by ac_rfl) ?_
  rw [mp_de3, mp_de0, mp_de1, mp_de2]
  simp
theorem mc_de2 (a b c d : UInt8) : 0 ^^^ gm (0 ^^^ gm a 14 ^^^ gm b 11 ^^^ gm c 13 ^^^ gm d 9) 1 ^^^ gm (0 ^^^ gm a 9 ^^^ gm b 14 ^^^ gm c 11 ^^^ gm d 13) 1 ^^^ gm (0 ^^^ gm a 13 ^^^ gm b 9 ^^^ gm c 14 ^^^ gm d 11) 2 ^^^ gm (0 ^^^ gm a 11 ^^^ gm b 13 ^^^ gm c 9 ^^^ gm d 14) 3 = c := by
  simp only [gm_xor, gm_zero]
  have h0 : ∀ y : UInt8, 0 ^^^ y = y := fun y => by simp
  simp only [h0]
  refine Eq.trans (b := (gm (gm a 13) 2 ^^^ gm (gm a 11) 3 ^^^ gm (gm a 14) 1 ^^^ gm (gm a 9) 1) ^^^ (gm (gm b 9) 2 ^^^ gm (gm b 13) 3 ^^^ gm (gm b 11) 1 ^^^ gm (gm b 14) 1) ^^^ (gm (gm c 14) 2 ^^^ gm (gm c 9) 3 ^^^ gm (gm c 13) 1 ^^^ gm (gm c 11) 1) ^^^ (gm (gm d 11) 2 ^^^ gm (gm d 14) 3 ^^^ gm (gm d 9) 1 ^^^ gm (gm d 13) 1)) (by ac_rfl) ?_
  rw [mp_de2, mp_de3, mp_de0, mp_de1]
  simp
theorem mc_de3 (a b c d : UInt8) : 0 ^^^ gm (0 ^^^ gm a 14 ^^^ gm b 11 ^^^ gm c 13 ^^^ gm d 9) 3 ^^^ gm (0 ^^^ gm a 9 ^^^ gm b 14 ^^^ gm c 11 ^^^ gm d 13) 1 ^^^ gm (0 ^^^ gm a 13 ^^^ gm b 9 ^^^ gm c 14 ^^^ gm d 11) 1 ^^^ gm (0 ^^^ gm a 11 ^^^ gm b 13 ^^^ gm c 9 ^^^ gm d 14) 2 = d := by
  simp only [gm_xor, gm_zero]
  have h0 : ∀ y : UInt8, 0 ^^^ y = y := fun y => by simp
  simp only [h0]
  refine Eq.trans (b := (gm (gm a 11) 2 ^^^ gm (gm a 14) 3 ^^^ gm (gm a 9) 1 ^^^ gm (gm a 13) 1) ^^^ (gm (gm b 13) 2 ^^^ gm (gm b 11) 3 ^^^ gm (gm b 14) 1 ^^^ gm (gm b 9) 1) ^^^ (gm (gm c 9) 2 ^^^ gm (gm c 13) 3 ^^^ gm (gm c 11) 1 ^^^ gm (gm c 14) 1) ^^^ (gm (gm d 14) 2 ^^^ gm (gm d 9) 3 ^^^ gm (gm d 13) 1 ^^^ gm (gm d 11) 1)) (by ac_rfl) ?_
  rw [mp_de1, mp_de2, mp_de3, mp_de0]
  simp
theorem mix_ed (l : List UInt8) (h : l.length = 16) : mixN (mixN l [2, 3, 1, 1] 4) [14, 11, 13, 9] 4 = l := by
  obtain ⟨x0, x1, x2, x3, x4, x5, x6, x7, x8, x9, x10, x11, x12, x13, x14, x15, rfl⟩ := list16 l h
  rw [mix_list, mix_list]
  simp only [mc_ed0, mc_ed1, mc_ed2, mc_ed3]
theorem mix_de (l : List UInt8) (h : l.length = 16) : mixN (mixN l [14, 11, 13, 9] 4) [2, 3, 1, 1] 4 = l := by
  obtain ⟨x0, x1, x2, x3, x4, x5, x6, x7, x8, x9, x10, x11, x12, x13, x14, x15, rfl⟩ := list16 l h
  rw [mix_list, mix_list]
  simp only [mc_de0, mc_de1, mc_de2, mc_de3]
theorem enc_list (x0 x1 x2 x3 x4 x5 x6 x7 x8 x9 x10 x11 x12 x13 x14 x15 : UInt8) : encN [x0, x1, x2, x3, x4, x5, x6, x7, x8, x9, x10, x11, x12, x13, x14, x15] 16 = [sb x0, sb x5, sb x10, sb x15, sb x4, sb x9, sb x14, sb x3, sb x8, sb x13, sb x2, sb x7, sb x12, sb x1, sb x6, sb x11] := rfl
theorem dec_list (x0 x1 x2 x3 x4 x5 x6 x7 x8 x9 x10 x11 x12 x13 x14 x15 : UInt8) : decN [x0, x1, x2, x3, x4, x5, x6, x7, x8, x9, x10, x11, x12, x13, x14, x15] 16 = [si x0, si x13, si x10, si x7, si x4, si x1, si x14, si x11, si x8, si x5, si x2, si x15, si x12, si x9, si x6, si x3] := rfl
theorem sub_ed (l : List UInt8) (h : l.length = 16) : decN (encN l 16) 16 = l := by
  obtain ⟨x0, x1, x2, x3, x4, x5, x6, x7, x8, x9, x10, x11, x12, x13, x14, x15, rfl⟩ := list16 l h
  rw [enc_list, dec_list]
  simp only [si_sb]
theorem sub_de (l : List UInt8) (h : l.length = 16) : encN (decN l 16) 16 = l := by
  obtain ⟨x0, x1, x2, x3, x4, x5, x6, x7, x8, x9, x10, x11, x12, x13, x14, x15, rfl⟩ := list16 l h
  rw [dec_list, enc_list]
  simp only [sb_si]
theorem xorL_back (l k : List UInt8) (h : l.length = k.length) : xorL (xorL l k) k = l := by
  unfold xorL
  induction l generalizing k with
  | nil => simp
  | cons x l ih =>
    cases k with
    | nil => simp at h
    | cons y k =>
      simp only [List.zipWith_cons_cons, UInt8.xor_assoc, UInt8.xor_self, UInt8.xor_zero]
      rw [ih k (by simpa using h)]
theorem encM_len (R i : Nat) (s : List UInt8) (h : s.length = 16) : (encM R i s).length = 16 := by
  unfold encM
  split
  · split
    · exact mixN_len _ _ (encN_len s 16) 4 (by omega)
    · exact encN_len s 16
  · exact h
theorem decM_len (R i : Nat) (s : List UInt8) (h : s.length = 16) : (decM R i s).length = 16 := by
  unfold decM
  split
  · exact mixN_len _ _ h 4 (by omega)
  · exact h
theorem encF_len (ks : List UInt8) (R : Nat) (l : List UInt8) (hk : ks.length = 16 * R) (hl : l.length = 16) (i : Nat) (hi : i ≤ R) : (encF ks R l i).length = 16 := by
  induction i with
  | zero => exact hl
  | succ i ih =>
    unfold encF
    exact xorL_len _ _ 16 (encM_len R i _ (ih (by omega))) (key_len ks R i hk (by omega))
theorem decM_encM (R i : Nat) (s : List UInt8) (hi : 0 < i) (h : s.length = 16) : decN (decM R i (encM R i s)) 16 = s := by
  unfold decM encM
  rw [if_pos hi]
  by_cases hm : i < R - 1
  · rw [if_pos hm, if_pos hm, mix_ed _ (encN_len s 16)]; exact sub_ed s h
  · rw [if_neg hm, if_neg hm]; exact sub_ed s h
theorem encM_decM (R i : Nat) (s : List UInt8) (hi : 0 < i) (h : s.length = 16) : encM R i (decN (decM R i s) 16) = s := by
  unfold decM encM
  rw [if_pos hi]
  by_cases hm : i < R - 1
  · rw [if_pos hm, if_pos hm, sub_de _ (mixN_len _ _ h 4 (by omega))]; exact mix_de s h
  · rw [if_neg hm, if_neg hm]; exact sub_de s h
theorem dec_enc (ks : List UInt8) (R : Nat) (l : List UInt8) (hk : ks.length = 16 * R) (hl : l.length = 16) (i : Nat) (hi : i < R) : decF ks R i (encF ks R l (i + 1)) = l := by
  induction i with
  | zero =>
    show xorL (xorL (encM R 0 l) (key ks 0)) (key ks 0) = l
    rw [xorL_back _ _ (by rw [encM_len R 0 l hl, key_len ks R 0 hk hi])]
    unfold encM; rw [if_neg (by omega)]
  | succ i ih =>
    show decF ks R i (decN (decM R (i + 1) (xorL (xorL (encM R (i + 1) (encF ks R l (i + 1))) (key ks (i + 1))) (key ks (i + 1)))) 16) = l
    have hs := encF_len ks R l hk hl (i + 1) (by omega)
    rw [xorL_back _ _ (by rw [encM_len R (i + 1) _ hs, key_len ks R (i + 1) hk hi]), decM_encM R (i + 1) _ (by omega) hs]
    exact ih (by omega)
theorem enc_dec (ks : List UInt8) (R : Nat) (hk : ks.length = 16 * R) (i : Nat) : ∀ (t : List UInt8), t.length = 16 → i < R → encF ks R (decF ks R i t) (i + 1) = t := by
  induction i with
  | zero =>
    intro t ht hi
    show xorL (encM R 0 (xorL t (key ks 0))) (key ks 0) = t
    have hx : encM R 0 (xorL t (key ks 0)) = xorL t (key ks 0) := by unfold encM; rw [if_neg (by omega)]
    rw [hx, xorL_back _ _ (by rw [ht, key_len ks R 0 hk hi])]
  | succ i ih =>
    intro t ht hi
    have hkl := key_len ks R (i + 1) hk hi
    have hxl : (xorL t (key ks (i + 1))).length = 16 := xorL_len _ _ 16 ht hkl
    show xorL (encM R (i + 1) (encF ks R (decF ks R i (decN (decM R (i + 1) (xorL t (key ks (i + 1)))) 16)) (i + 1))) (key ks (i + 1)) = t
    rw [ih _ (decN_len _ 16) (by omega), encM_decM R (i + 1) _ (by omega) hxl, xorL_back _ _ (by rw [ht, hkl])]
theorem dec_of_enc (ks : List UInt8) (R : Nat) (l : List UInt8) (hk : ks.length = 16 * R) (hR : 0 < R) (hl : l.length = 16) : decL ks R (encL ks R l) = l := by
  obtain ⟨r, rfl⟩ : ∃ r, R = r + 1 := ⟨R - 1, by omega⟩
  exact dec_enc ks (r + 1) l hk hl r (by omega)
theorem enc_of_dec (ks : List UInt8) (R : Nat) (l : List UInt8) (hk : ks.length = 16 * R) (hR : 0 < R) (hl : l.length = 16) : encL ks R (decL ks R l) = l := by
  obtain ⟨r, rfl⟩ : ∃ r, R = r + 1 := ⟨R - 1, by omega⟩
  exact enc_dec ks (r + 1) hk r l hl (by omega)
end Go.Proofs.Ytiocmebcbhbcmaa
