/-
  Modes: the block of two lengths; bytes filled up to whole blocks.
-/
import Derived.Test.YtgjnmpjimhbfgaaGreatDoorZzMo1
import Derived.Test.YtgjnmpjimhbfgaaGreatDoorAppZ
import Derived.Test.YtgjnmpjimhbfgaaGreatDoorZzMo1
namespace Go.Proofs.YtgjnmpjimhbfgaaGreatDoor
set_option maxRecDepth 100000
open Go.RowKit
def lenL (a b : Nat) : List UInt8 := bytes64 (UInt64.ofNat (a * 8)) ++ bytes64 (UInt64.ofNat (b * 8))
theorem lengths_any (a b : Nat) (w : World) (ha : a ≤ 100000000) (hb : b ≤ 100000000) :
  Calls Tryz.prog 140 #[.int .i64 (a : Int), .int .i64 (b : Int)] w fun e w' => ∃ v, e = .returned v ∧ Own w' w.heap.size v (lenL a b) ∧ Below w.heap.size w w' := by
 have hu : ∀ n : Nat, n ≤ 100000000 → U64 (UInt64.ofNat (n * 8)) = .int .u64 ((n : Int) * 8) := fun n hn => by
  unfold U64
  congr 1
  simp
  omega
 have H1 := append64_any (.slice none 0 0) (UInt64.ofNat (a * 8)) [] w w.heap.size ⟨by simp, .inl ⟨rfl, rfl⟩⟩ (Nat.le_refl _) (by simp)
 rw [hu a ha] at H1
 go_enter Tryz.func140, Tryz.ntmps140
 go_wp2_with fail
 refine H1.mono ?_
 rintro e w1 ⟨v1, rfl, ho1, ht1, hv1⟩
 have hb1 : Below w.heap.size w w1 := below_turn (Below.refl _ _) ht1 (by simp [Value.ownBlock]) (Nat.le_refl _)
 have H2 := append64_any v1 (UInt64.ofNat (b * 8)) _ w1 w.heap.size ho1 ht1.size (by simp [bytes64])
 rw [hu b hb] at H2
 have HB := Lib.hid (And.intro ho1 hb1)
 clear H1 ho1 ht1 hv1 hb1
 go_wp2_with fail
 refine H2.mono ?_
 rintro e w2 ⟨v2, rfl, ho2, ht2, hv2⟩
 have hb2 : Below w.heap.size w w2 := below_turn HB.out.2 ht2 (fun g hg => (Own.lt HB.out.1 (by simpa using hg)).1) HB.out.2.size
 rw [List.nil_append] at ho2
 have HC := Lib.hid (And.intro ho2 hb2)
 clear H2 ho2 ht2 hv2 hb2
 go_wp2_with fail
 go_ret
 exact ⟨_, rfl, HC.out.1, HC.out.2⟩
theorem clone_own_q (A : Option Addr) (m c : Nat) (l : List UInt8) (w : World) (h : Rd w A m c l) (hm : m ≤ 100000000000) :
  Calls Tryz.prog 43 #[.slice A m c] w fun e w' => ∃ A' n' c', e = .returned (.slice A' n' c') ∧ Own w' w.heap.size (.slice A' n' c') l ∧ Below w.heap.size w w' := by
 obtain ⟨h1, h2, h3, ⟨rfl, hc⟩ | ⟨b, off, rfl, h4⟩⟩ := h
 ·obtain rfl : m = 0 := by omega
  obtain rfl : l = [] := List.length_eq_zero_iff.1 h1.symm
  subst hc
  refine (clone_nil w).mono ?_
  rintro e w' ⟨rfl, rfl⟩
  exact ⟨_, _, _, rfl, Own.nil _ _, Below.refl _ _⟩
 ·refine (clone_any b off m c l w h4 h1 (by omega)).mono ?_
  rintro e w' ⟨g, c', rfl, ho, hb⟩
  exact ⟨_, _, _, rfl, ho, hb⟩
theorem run_append_Z0 (w : World) (base : Nat) (ty : TypeId) (v : Value) (l : List UInt8) (hown : Own w base v l) :
  (Builtin.append_ #[32, 3] ty #[v, .int .i64 0]).run Tryz.prog w = .ok v w := by
 obtain ⟨i, hi, hz, hsz, hby⟩ := info_parts Tryz.infoU8
 have hw : IntKind.i64.wrap 0 = 0 := by decide
 rcases hown.2 with ⟨rfl, _⟩ | ⟨g, cap, cur, rfl, _, _, hnc, _⟩
 ·simp [Builtin.append_, run_underlying Tryz.underlying32, run_underlying Tryz.underlying3, sizeOf, typeInfo, zeroValue, hi, hz, hby, asInt, asIntOf, hw, Builtin.lenOf, Builtin.firstCells]
 ·simp [Builtin.append_, run_underlying Tryz.underlying32, run_underlying Tryz.underlying3, sizeOf, typeInfo, zeroValue, hi, hz, hby, asInt, asIntOf, hw, Builtin.lenOf, Builtin.firstCells, hnc, storeCells, loadCells]
theorem wp_appZ0 {ops : Array Oper} {rest : List Oper} {o : Oper} {a : Act} {w : World} {Q : Exit → Act → World → Prop} (s x : Operand) (base : Nat) (v : Value) (l : List UInt8) (hown : Own w base v l) (hgd : o.guard = none)
  (ho : o.op = .call { callee := .builtin .append, args := #[s, x], argTypes := #[32, 3] }) (hs : a.eval s = v) (hx : a.eval x = .int .i64 0)
  (h : wpList Tryz.prog ops Q rest (a.put o.dst v) w) : wpList Tryz.prog ops Q (o :: rest) a w := by
 refine wpList_plain hgd fun K hK => ?_
 have hrun := run_append_Z0 w base o.type v l hown
 unfold Oper.wp
 simp only [execOp, ho, resolve, invoke, builtin, Sem.run_bind, Sem.run_pure, Result.andThen_ok, List.map_toArray, List.map_cons, List.map_nil, hs, hx, hrun]
 exact hK _ _ h
def padM (n : Nat) : Nat := (16 - n % 16) % 16
set_option maxHeartbeats 1000000 in
theorem filled_any (A : Option Addr) (m c : Nat) (b : List UInt8) (w : World) (h : Rd w A m c b) (hb : b.length ≤ 100000) :
  Calls Tryz.prog 139 #[.slice A m c] w fun e w' => ∃ A' n' c', e = .returned (.slice A' n' c') ∧ Own w' w.heap.size (.slice A' n' c') (b ++ zs (padM b.length)) ∧ Below w.heap.size w w' := by
 have hm := h.1
 have hp : padM m ≤ 15 := by unfold padM; omega
 have hpi : (16 - (m : Int) % 16) % 16 = (padM m : Int) := by unfold padM; omega
 have hm2 : m ≤ 100000 := by omega
 have H := Lib.hid (And.intro h hm)
 clear h hm
 go_enter Tryz.func139, Tryz.ntmps139
 go_wp2_with fail
 refine (clone_own_q A m c b w H.out.1 (by omega)).mono ?_
 rintro e w1 ⟨A1, n1, c1, rfl, ho, hB⟩
 have HO := Lib.hid (And.intro ho hB)
 clear ho hB
 by_cases hk : padM m = 0
 ·have hpi0 : (16 - (m : Int) % 16) % 16 = 0 := by rw [hpi, hk]; rfl
  have hpi1 : -((m : Int) % 16) % 16 = 0 := by omega
  have hz : zs (padM b.length) = [] := by rw [← H.out.2, hk]; rfl
  have HZ := Lib.hid hz
  clear hpi hz hp hk
  go_wp2_with (at_builtin; refine wp_appZ0 _ _ w.heap.size (.slice A1 n1 c1) b HO.out.1 rfl rfl rfl (congrArg (Value.int .i64) hpi0) ?_)
  go_wp2_with fail
  go_ret
  refine ⟨_, _, _, rfl, ?_, HO.out.2⟩
  rw [HZ.out, List.append_nil]
  exact HO.out.1
 ·have HP := Lib.hid hpi
  clear hpi
  go_wp2_with (at_builtin; refine wp_appZ _ _ w.heap.size (.slice A1 n1 c1) b HO.out.1 HO.out.2.size (padM m) (by omega) (by rw [← H.out.2]; omega) rfl rfl rfl (by rw [← HP.out]; rfl) ?_)
  intro A2 n2 c2 w2 hn2 hG
  have HG := Lib.hid hG
  clear hG
  go_wp2_with fail
  go_ret
  refine ⟨_, _, _, rfl, ?_, ?_⟩
  ·rw [← H.out.2]
   exact HG.out.own
  ·exact HO.out.2.trans HG.out.below
end Go.Proofs.YtgjnmpjimhbfgaaGreatDoor
