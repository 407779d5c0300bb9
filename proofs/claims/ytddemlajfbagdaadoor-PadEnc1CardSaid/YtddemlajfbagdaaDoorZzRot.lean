/-
  A region that draws its order, walked by hand: what reads is taken first, under 'nothing that was there has turned'; a call or a new block when it alone may come up. And string(b) of bytes.
  Slice expressions on bytes, whatever the slice (nil too). Contract of baileylaw3.Short.
  Pad: names of hash functions, DER of a hash.
  Contracts of math/bits.RotateLeft32, RotateLeft64, zbyte.Get32, Get64, and of the reference's left, right, rightL, word.
-/
import Derived.Test.YtddemlajfbagdaaDoorZzApp2
import Derived.Deep.RegionHeld3
import Derived.Test.YtddemlajfbagdaaDoorZzPq2
import Derived.Laws.Concat
import Derived.Lib.ConvBytes
import Derived.Test.YtddemlajfbagdaaDoorWords
namespace Go.Proofs.YtddemlajfbagdaaDoor
set_option maxRecDepth 100000
open Go.RowKit

/-- string(b) -/
theorem toStr {w : World} {b off : Nat} {l : List UInt8} (h : At w b off l) (c : Nat) : (convert 22 9 (.slice (some ⟨b, off, none⟩) l.length c)).run Tryd.prog w = .ok (.string ⟨l.toArray⟩) w := by
  have h1 := run_convert_bytes_arg (P := Tryd.prog) w 22 5 Tryd.underlying22 Tryd.underlying5 b off l.length c (l.map fun x => (x.toNat : Int)) (by simp)
    (fun i hi => by have := h.cell hi; simpa [B, List.getD, hi] using this) 9 Tryd.underlying9
  rw [h1]
  congr 2
  unfold strOfNums
  congr 1
  rw [List.map_map]
  have : (fun n : Int => UInt8.ofNat n.toNat) ∘ (fun x : UInt8 => (x.toNat : Int)) = id := by funext x; simp
  rw [this, List.map_id]
theorem toStr_nil (w : World) (n c : Nat) : (convert 22 9 (.slice none n c)).run Tryd.prog w = .ok (.string ⟨([] : List UInt8).toArray⟩) w :=
  run_convert_bytes_nil (P := Tryd.prog) w 22 5 Tryd.underlying22 Tryd.underlying5 n c 9 Tryd.underlying9
theorem Rd.str {w : World} {A : Option Addr} {m c : Nat} {l : List UInt8} (h : Rd w A m c l) : (convert 22 9 (.slice A m c)).run Tryd.prog w = .ok (.string ⟨l.toArray⟩) w := by
  obtain ⟨rfl, h2, h3, ⟨rfl, hc⟩ | ⟨b, off, rfl, hat⟩⟩ := h
  · have hz : l.length = 0 := by omega
    obtain rfl := List.length_eq_zero_iff.1 hz
    exact toStr_nil w _ _
  · exact toStr hat c
theorem Rd.str_below {w w' : World} {A : Option Addr} {m c : Nat} {l : List UInt8} (h : Rd w A m c l) (hb : Below w.heap.size w w') : (convert 22 9 (.slice A m c)).run Tryd.prog w' = .ok (.string ⟨l.toArray⟩) w' := (h.below hb).str

section
variable {P : Program} {ops : Array Oper} {Q : Exit → Act → World → Prop} {md : Region.Mode} {S : World → Prop}
theorem takeL {i : Nat} {oi : Oper} {v : Value} {fuel : Nat} {listed : Array Bool} {a : Act} {w : World} (hi : ops.toList[i]? = some oi)
    (hs : Region.noSelect ops = true) (hf : Region.free md ops listed i = true) (hr : (Region.ready md ops listed).contains i = true)
    (hQ : ∀ c a w, Q (.panic c) (a.put oi.dst v) w → Q (.panic c) a w) (hy : YieldsIf P ops S oi v a) (hS : S w)
    (h : wpAnyH P md ops Q S fuel (listed.setIfInBounds i true) (a.put oi.dst v) w) : wpAnyH P md ops Q S (fuel + 1) listed a w :=
  wpAnyH_take (by simpa using hi) hs hf hr hQ hy hS h
theorem consL {fuel : Nat} {listed : Array Bool} {a : Act} {w : World} {i : Nat} {o : Oper} {rs : List Nat} (ho : ops.toList[i]? = some o)
    (h : ∀ K' : Act → World → Prop, Shut (∀ a w, S w → (S w → wpAnyH P md ops Q S fuel (listed.setIfInBounds i true) a w) → K' a w) → if Region.wanted o (yielded ops a.tmps) = true then Oper.wp P o a w K' Q else K' (a.put o.dst undef) w)
    (hs : AllReadyH P md ops Q S fuel listed a w rs) : AllReadyH P md ops Q S fuel listed a w (i :: rs) := AllReadyH.cons (by simpa using ho) h hs
end
/-- A stronger word serves. -/
theorem wpAnyH_mono {P : Program} {md : Region.Mode} {ops : Array Oper} {Q : Exit → Act → World → Prop} {S S' : World → Prop} (h : ∀ w, S' w → S w) :
    ∀ (fuel : Nat) (listed : Array Bool) (a : Act) (w : World), wpAnyH P md ops Q S' fuel listed a w → wpAnyH P md ops Q S fuel listed a w
  | 0, _, _, _, hw => hw
  | fuel + 1, _, _, _, hw => ⟨hw.1, fun i hi => wpOp_mono (fun a' w' h' => ⟨h w' h'.1, wpAnyH_mono h fuel _ a' w' h'.2⟩) (hw.2 i hi)⟩
/-- Nothing that was there has turned. -/
def Old (w0 w : World) : Prop := Below w0.heap.size w0 w
theorem Old.refl (w : World) : Old w w := Below.refl _ w
theorem Old.drew {w0 w : World} (h : Old w0 w) : Old w0 w.drew := Below.drew h
theorem Old.alloc {w0 w : World} (h : Old w0 w) (o : Obj) : Old w0 (w.alloc o) := Below.alloc h (Below.size h) o
theorem Old.trans {w0 w1 w : World} (h : Old w0 w1) (h' : Old w1 w) : Old w0 w := Below.trans h (Below.mono h' (Below.size h))
theorem Old.drewN {w0 w : World} (h : Old w0 w) (n : Nat) : Old w0 (w.drewN n) := ⟨h.os, h.tape, h.output, h.size, h.block⟩
theorem wpAnyH_old {P : Program} {md : Region.Mode} {ops : Array Oper} {Q : Exit → Act → World → Prop} {w0 w1 : World} (h01 : Old w0 w1) {fuel : Nat} {listed : Array Bool} {a : Act} {w : World}
    (h : Old w1 w → wpAnyH P md ops Q (Old w1) fuel listed a w) (hw : Old w1 w) : wpAnyH P md ops Q (Old w0) fuel listed a w :=
  wpAnyH_mono (fun _ h' => h01.trans h') _ _ _ _ (h hw)
theorem region_old {P : Program} {ops : Array Oper} {Q : Exit → Act → World → Prop} {id : Nat} {a : Act} {w : World} (hm : P.follows .mixedOrders = true)
    (h : ∀ wd, Old w wd → w.heap.size = wd.heap.size → wpAnyH P .any ops (NoPanic Q) (Old w) ops.size (Array.replicate ops.size false) a wd) : (Code.region id ops true).wp P Q a w :=
  wp_region_noPanic (wp_region_held_drew hm (Old.drew (Old.refl w)) (fun hS => h _ hS rfl))
end Go.Proofs.YtddemlajfbagdaaDoor
namespace Go.Proofs.YtddemlajfbagdaaDoor
open Go.RowKit

theorem addr_add0 (A : Option Addr) (h : ∀ ad, A = some ad → ad.spot = none) : A.map (·.add 0) = A := by
  cases A with
  | none => rfl
  | some ad =>
    obtain ⟨b, off, spot⟩ := ad
    have := h _ rfl
    simp only at this
    subst this
    rfl
theorem Rd.spot {w : World} {A : Option Addr} {m c : Nat} {l : List UInt8} (h : Rd w A m c l) : ∀ ad, A = some ad → ad.spot = none := by
  obtain ⟨_, _, _, ⟨rfl, _⟩ | ⟨b, off, rfl, _⟩⟩ := h
  · intro ad h; cases h
  · intro ad h; cases h; rfl
theorem sz8 : (Tryd.prog.info? 5).map (·.size) = some 1 := by kernel_rfl
/-- x[:k] -/
theorem slice_to (A : Option Addr) (m c k : Nat) (hA : ∀ ad, A = some ad → ad.spot = none) (hk : k ≤ c) (w : World) : (Instr.slice 22 (.slice A m c) none (some (.int .i64 (k : Int))) none).run Tryd.prog w = .ok (.slice A k c) w := by
  obtain ⟨i, hi, hz⟩ : ∃ i, Tryd.prog.info? 5 = some i ∧ i.size = 1 := by
    cases h : Tryd.prog.info? 5 with
    | none => have := sz8; rw [h] at this; cases this
    | some i => exact ⟨i, rfl, by have := sz8; rw [h] at this; simpa using this⟩
  unfold Instr.slice
  simp [Sem.run_bind, run_underlying Tryd.underlying22 w, Instr.sliceBounds, Instr.sliceBound, asIntOf, sizeOf, typeInfo, hi]
  rw [if_pos hk, addr_add0 A hA]
  simp
/-- x[k:] -/
theorem slice_from (A : Option Addr) (m c k : Nat) (hk : k ≤ m) (w : World) : (Instr.slice 22 (.slice A m c) (some (.int .i64 (k : Int))) none none).run Tryd.prog w = .ok (.slice (if c = k then A else A.map (·.add k)) (m - k) (c - k)) w := by
  obtain ⟨i, hi, hz⟩ : ∃ i, Tryd.prog.info? 5 = some i ∧ i.size = 1 := by
    cases h : Tryd.prog.info? 5 with
    | none => have := sz8; rw [h] at this; cases this
    | some i => exact ⟨i, rfl, by have := sz8; rw [h] at this; simpa using this⟩
  have h1 : (0 : Int) ≤ k ∧ (k : Int) ≤ m := by omega
  unfold Instr.slice
  simp [Sem.run_bind, run_underlying Tryd.underlying22 w, Instr.sliceBounds, Instr.sliceBound, asIntOf, h1, sizeOf, typeInfo, hi, hz]
  intro h; omega
/-- x[k:j] -/
theorem slice_both (A : Option Addr) (m c k j : Nat) (hk : k ≤ j) (hj : j ≤ c) (w : World) : (Instr.slice 22 (.slice A m c) (some (.int .i64 (k : Int))) (some (.int .i64 (j : Int))) none).run Tryd.prog w = .ok (.slice (if c = k then A else A.map (·.add k)) (j - k) (c - k)) w := by
  obtain ⟨i, hi, hz⟩ : ∃ i, Tryd.prog.info? 5 = some i ∧ i.size = 1 := by
    cases h : Tryd.prog.info? 5 with
    | none => have := sz8; rw [h] at this; cases this
    | some i => exact ⟨i, rfl, by have := sz8; rw [h] at this; simpa using this⟩
  have h1 : (0 : Int) ≤ k ∧ (k : Int) ≤ j := by omega
  have h2 : (0 : Int) ≤ j ∧ (j : Int) ≤ c := by omega
  unfold Instr.slice
  simp [Sem.run_bind, run_underlying Tryd.underlying22 w, Instr.sliceBounds, Instr.sliceBound, asIntOf, h1, h2, sizeOf, typeInfo, hi, hz]
  rw [if_pos hj, if_pos hk]
theorem short_any (A : Option Addr) (m c n : Nat) (l : List UInt8) (w : World) (h : Rd w A m c l) (_hn : n ≤ 100000) :
    Calls Tryd.prog 11 #[.slice A m c, .int .i64 n] w fun e w' => e = .returned (.slice A (min m n) c) ∧ w = w' := by
  have hs := slice_to A m c n h.spot
  have h1 := h.2.1
  have h2 := h.2.2.1
  unfold maxLen at h2
  clear h
  rcases Nat.lt_or_ge n m with hlt | hge
  · have hli : (n : Int) < m := by omega
    have hs2 := hs (by omega)
    have hm : min m n = n := by omega
    have Hm := Lib.hid hm
    clear hm hs
    go_enter Tryd.func11, Tryd.ntmps11
    go_wp2
    go_ret
    exact ⟨by first | rfl | (rw [Hm.out]; rfl), rfl⟩
  · have hli : ¬ ((n : Int) < m) := by omega
    have hm : min m n = m := by omega
    have Hm := Lib.hid hm
    clear hm hs
    go_enter Tryd.func11, Tryd.ntmps11
    go_wp2
    go_ret
    exact ⟨by first | rfl | (rw [Hm.out]; rfl), rfl⟩
theorem Rd.short {w : World} {A : Option Addr} {m c n : Nat} {l : List UInt8} (h : Rd w A m c l) : Rd w A (min m n) c (l.take n) := by
  have h1 := h.front (k := min m n) (Nat.min_le_left _ _)
  have e : l.take (min m n) = l.take n := by
    have := h.1
    rw [this]
    rcases Nat.le_total l.length n with h | h
    · rw [Nat.min_eq_left h, List.take_of_length_le (Nat.le_refl _), List.take_of_length_le h]
    · rw [Nat.min_eq_right h]
  rwa [e] at h1
theorem Rd.cut_ex {w : World} {A : Option Addr} {m c k : Nat} {l : List UInt8} (h : Rd w A m c l) (hk : k ≤ m) :
    ∃ A' n' c', n' = m - k ∧ (∀ w, (Instr.slice 22 (.slice A m c) (some (.int .i64 (k : Int))) none none).run Tryd.prog w = .ok (.slice A' n' c') w) ∧ Rd w A' n' c' (l.drop k) :=
  ⟨_, _, _, rfl, slice_from A m c k hk, h.cut hk⟩
theorem Rd.cut_ex2 {w : World} {A : Option Addr} {m c k : Nat} {l : List UInt8} (h : Rd w A m c l) (hk : k ≤ m) :
    ∃ A' n' c', n' = m - k ∧ (∀ w, (Instr.slice 22 (.slice A m c) (some (.int .i64 (k : Int))) none none).run Tryd.prog w = .ok (.slice A' n' c') w) ∧ Rd w A' n' c' (l.drop k) ∧ (∀ ad', A' = some ad' → ∃ ad, A = some ad ∧ ad'.block = ad.block) := by
  refine ⟨_, _, _, rfl, slice_from A m c k hk, h.cut hk, ?_⟩
  intro ad' had
  split at had
  · exact ⟨ad', had, rfl⟩
  · cases A with
    | none => cases had
    | some ad =>
      simp only [Option.map_some, Option.some.injEq] at had
      refine ⟨ad, rfl, ?_⟩
      rw [← had]
      unfold Addr.add; split <;> rfl
end Go.Proofs.YtddemlajfbagdaaDoor

namespace Go.Proofs.YtddemlajfbagdaaDoor
set_option maxRecDepth 100000
open Go.RowKit

theorem oid_any (kind : Int) (w : World) : Calls Tryd.prog 31 #[.int .i64 kind] w fun e w' => e = .returned (.string ⟨(oidB kind).toArray⟩) ∧ w = w' := by
  by_cases h1 : kind = 1
  · subst h1
    go_enter Tryd.func31, Tryd.ntmps31
    go_wp2_with fail
    go_ret
    exact ⟨rfl, rfl⟩
  by_cases h2 : kind = 2
  · subst h2
    go_enter Tryd.func31, Tryd.ntmps31
    go_wp2_with fail
    go_ret
    exact ⟨rfl, rfl⟩
  by_cases h3 : kind = 3
  · subst h3
    go_enter Tryd.func31, Tryd.ntmps31
    go_wp2_with fail
    go_ret
    exact ⟨rfl, rfl⟩
  by_cases h4 : kind = 4
  · subst h4
    go_enter Tryd.func31, Tryd.ntmps31
    go_wp2_with fail
    go_ret
    exact ⟨rfl, rfl⟩
  by_cases h5 : kind = 5
  · subst h5
    go_enter Tryd.func31, Tryd.ntmps31
    go_wp2_with fail
    go_ret
    exact ⟨rfl, rfl⟩
  unfold oidB
  rw [if_neg h1, if_neg h2, if_neg h3, if_neg h4, if_neg h5]
  have b1 : (kind == 1) = false := by simpa using h1
  have b2 : (kind == 2) = false := by simpa using h2
  have b3 : (kind == 3) = false := by simpa using h3
  have b4 : (kind == 4) = false := by simpa using h4
  have b5 : (kind == 5) = false := by simpa using h5
  go_enter Tryd.func31, Tryd.ntmps31
  go_wp2_with fail
  go_ret
  exact ⟨rfl, rfl⟩
theorem conv_iB8 (n : Nat) (W : World) (hn : n < 256) : (convert 3 5 (.int .i64 (n : Int))).run Tryd.prog W = .ok (B (UInt8.ofNat n)) W := by
  rw [conv_int W .u8 Tryd.underlying3 Tryd.underlying5, IntWalk.u8_in _ (by omega)]
  have : ((UInt8.ofNat n).toNat : Int) = (n : Int) := by rw [UInt8.toNat_ofNat', Nat.mod_eq_of_lt (by omega)]
  show _ = Result.ok (Value.int .u8 ((UInt8.ofNat n).toNat : Int)) W
  rw [this]
theorem add_str (a b : List UInt8) (W : World) (ha : a.length ≤ 100000) (hb : b.length ≤ 100000) : (binOp .add 9 (.string ⟨a.toArray⟩) (.string ⟨b.toArray⟩)).run Tryd.prog W = .ok (.string ⟨(a ++ b).toArray⟩) W := by
  rw [binOp_string_add]
  exact run_string_add_lists _ a b (by omega) (by omega)
theorem held_any (tag : UInt8) (b : List UInt8) (hb : b.length ≤ 255) (w : World) : Calls Tryd.prog 30 #[B tag, .string ⟨b.toArray⟩] w fun e w' => e = .returned (.string ⟨(heldB tag b).toArray⟩) ∧ Old w w' := by
  obtain ⟨n, hn⟩ : ∃ n, b.length = n := ⟨_, rfl⟩
  have hsz : (⟨b.toArray⟩ : ByteArray).size = n := by rw [← hn]; simp [ByteArray.size]
  have hcv := fun W => conv_iB8 n W (by omega)
  obtain ⟨z, hz⟩ : ∃ z, UInt8.ofNat n = z := ⟨_, rfl⟩
  simp only [hz] at hcv
  have hlt : ¬ (9223372036854775807 < 2 + n) := by omega
  have hrd := (rd_lit (w := w) (cs := #[B tag, B z]) (l2 := [tag, z]) (n := 2) rfl rfl (by decide)).str
  have hres : heldB tag b = [tag, z] ++ b := by unfold heldB; rw [hn, hz]; rfl
  have HR := Lib.hid hres
  clear hres hz hn hb
  go_enter Tryd.func30, Tryd.ntmps30
  go_wp2_with fail

  go_ret
  rw [HR.out]
  exact ⟨rfl, (Old.refl w).alloc _⟩
end Go.Proofs.YtddemlajfbagdaaDoor
namespace Go.Proofs.YtddemlajfbagdaaDoor
open Go.RowKit

def rotl32 (x : UInt32) (n : Nat) : UInt32 := x <<< UInt32.ofNat n ||| x >>> UInt32.ofNat (32 - n)
def rotl64 (x : UInt64) (n : Nat) : UInt64 := x <<< UInt64.ofNat n ||| x >>> UInt64.ofNat (64 - n)

theorem and_mask (k : Int) (m : Nat) (j : Nat) (hj : m = 2 ^ j) (hm : m ≤ 64) (h0 : 0 < m) :
    BitVec.toNat (BitVec.ofInt 64 (k % 18446744073709551616) &&& BitVec.ofInt 64 ((m : Int) - 1)) = (k % m).toNat := by
  rw [BitVec.toNat_and, BitVec.toNat_ofInt, BitVec.toNat_ofInt]
  have e1 : (((m : Int) - 1) % ((2 ^ 64 : Nat) : Int)).toNat = 2 ^ j - 1 := by
    rw [← hj]; omega
  rw [e1, Nat.and_two_pow_sub_one_eq_mod, ← hj]
  have : (k % 18446744073709551616 % ((2 ^ 64 : Nat) : Int)) = k % 18446744073709551616 := by omega
  rw [this]
  have hd : ((m : Int)) ∣ 18446744073709551616 := by
    have hj6 : j ≤ 6 := by
      rcases Nat.lt_or_ge 6 j with h | h
      · have : 2 ^ 7 ≤ 2 ^ j := Nat.pow_le_pow_right (by omega) h
        omega
      · exact h
    subst hj
    have : j = 0 ∨ j = 1 ∨ j = 2 ∨ j = 3 ∨ j = 4 ∨ j = 5 ∨ j = 6 := by omega
    rcases this with rfl | rfl | rfl | rfl | rfl | rfl | rfl <;> decide
  have h2 := Int.emod_emod_of_dvd k hd
  have h3 : 0 ≤ k % 18446744073709551616 := by omega
  obtain ⟨u, hu⟩ := Int.eq_ofNat_of_zero_le h3
  rw [hu] at h2 ⊢
  rw [Int.toNat_natCast]
  omega

theorem rot32_any (x : UInt32) (k : Int) (n : Nat) (w : World) (hk : k % 32 = n) (h0 : 0 < n) :
    Calls Tryd.prog 90 #[U32 x, .int .i64 k] w fun e w' => e = .returned (U32 (rotl32 x n)) ∧ w = w' := by
  have hs : (convert 3 66 (.int .i64 k)).run Tryd.prog w = .ok (.int .u64 (IntKind.u64.wrap k)) w := conv_int w .u64 Tryd.underlying3 Tryd.underlying66 .i64 k
  have hn : (n : Int) < 32 := by omega
  have hn0 : (0 : Int) < n := by omega
  have ha : binOp .and 66 (.int .u64 (IntKind.u64.wrap k)) (.int .u64 31) = pure (.int .u64 n) := by
    show (pure (.int .u64 (IntKind.u64.wrap (BitVec.toNat (BitVec.ofInt 64 (IntKind.u64.wrap k) &&& BitVec.ofInt 64 (31 : Int))))) : Sem Value) = _
    have := and_mask k 32 5 rfl (by omega) (by omega)
    rw [show (((32 : Nat) : Int) - 1) = 31 from rfl] at this
    rw [wrap_u64, wrap_u64, this, show ((32 : Nat) : Int) = 32 from rfl, hk]
    refine congrArg (fun z : Int => (pure (Value.int IntKind.u64 z) : Sem Value)) ?_
    omega
  obtain ⟨m, hm⟩ : ∃ m : Nat, 32 - n = m := ⟨_, rfl⟩
  have hw : IntKind.u64.wrap (32 - (n : Int)) = (m : Int) := by rw [wrap_u64]; omega
  have hz : (m : Int) < 32 := by omega
  have HM := Lib.hid hm
  clear hm
  have H := Lib.hid hk
  clear hk
  go_enter Tryd.func90, Tryd.ntmps90
  go_wp2
  go_ret
  exact ⟨by rw [← HM.out]; rfl, rfl⟩
theorem rot64_any (x : UInt64) (k : Int) (n : Nat) (w : World) (hk : k % 64 = n) (h0 : 0 < n) :
    Calls Tryd.prog 92 #[U64 x, .int .i64 k] w fun e w' => e = .returned (U64 (rotl64 x n)) ∧ w = w' := by
  have hs : (convert 3 66 (.int .i64 k)).run Tryd.prog w = .ok (.int .u64 (IntKind.u64.wrap k)) w := conv_int w .u64 Tryd.underlying3 Tryd.underlying66 .i64 k
  have hn : (n : Int) < 64 := by omega
  have hn0 : (0 : Int) < n := by omega
  have ha : binOp .and 66 (.int .u64 (IntKind.u64.wrap k)) (.int .u64 63) = pure (.int .u64 n) := by
    show (pure (.int .u64 (IntKind.u64.wrap (BitVec.toNat (BitVec.ofInt 64 (IntKind.u64.wrap k) &&& BitVec.ofInt 64 (63 : Int))))) : Sem Value) = _
    have := and_mask k 64 6 rfl (by omega) (by omega)
    rw [show (((64 : Nat) : Int) - 1) = 63 from rfl] at this
    rw [wrap_u64, wrap_u64, this, show ((64 : Nat) : Int) = 64 from rfl, hk]
    refine congrArg (fun z : Int => (pure (Value.int IntKind.u64 z) : Sem Value)) ?_
    omega
  obtain ⟨m, hm⟩ : ∃ m : Nat, 64 - n = m := ⟨_, rfl⟩
  have hw : IntKind.u64.wrap (64 - (n : Int)) = (m : Int) := by rw [wrap_u64]; omega
  have hz : (m : Int) < 64 := by omega
  have HM := Lib.hid hm
  clear hm
  have H := Lib.hid hk
  clear hk
  go_enter Tryd.func92, Tryd.ntmps92
  go_wp2
  go_ret
  exact ⟨by rw [← HM.out]; rfl, rfl⟩

/-! ### the reference's -/
theorem left_any (x : UInt32) (n : Nat) (w : World) (h0 : 0 < n) (h1 : n < 32) :
    Calls Tryd.prog 75 #[U32 x, .int .u64 n] w fun e w' => e = .returned (U32 (rotl32 x n)) ∧ w = w' := by
  have hn : (n : Int) < 32 := by omega
  have hn0 : (0 : Int) < n := by omega
  obtain ⟨m, hm⟩ : ∃ m : Nat, 32 - n = m := ⟨_, rfl⟩
  have hw : IntKind.u64.wrap (32 - (n : Int)) = (m : Int) := by rw [wrap_u64]; omega
  have hz : (m : Int) < 32 := by omega
  have HM := Lib.hid hm
  clear hm
  go_enter Tryd.func75, Tryd.ntmps75
  go_wp2
  go_ret
  exact ⟨by rw [← HM.out]; rfl, rfl⟩
theorem right_any (x : UInt32) (n : Nat) (w : World) (h0 : 0 < n) (h1 : n < 32) :
    Calls Tryd.prog 78 #[U32 x, .int .u64 n] w fun e w' => e = .returned (U32 (rotl32 x (32 - n))) ∧ w = w' := by
  have hn : (n : Int) < 32 := by omega
  have hn0 : (0 : Int) < n := by omega
  obtain ⟨m, hm⟩ : ∃ m : Nat, 32 - n = m := ⟨_, rfl⟩
  have hw : IntKind.u64.wrap (32 - (n : Int)) = (m : Int) := by rw [wrap_u64]; omega
  have hz : (m : Int) < 32 := by omega
  have HM := Lib.hid hm
  clear hm
  go_enter Tryd.func78, Tryd.ntmps78
  go_wp2
  go_ret
  refine ⟨?_, rfl⟩
  rw [← HM.out]
  unfold rotl32
  rw [show 32 - (32 - n) = n from by omega, UInt32.or_comm]; rfl
theorem rightL_any (x : UInt64) (n : Nat) (w : World) (h0 : 0 < n) (h1 : n < 64) :
    Calls Tryd.prog 80 #[U64 x, .int .u64 n] w fun e w' => e = .returned (U64 (rotl64 x (64 - n))) ∧ w = w' := by
  have hn : (n : Int) < 64 := by omega
  have hn0 : (0 : Int) < n := by omega
  obtain ⟨m, hm⟩ : ∃ m : Nat, 64 - n = m := ⟨_, rfl⟩
  have hw : IntKind.u64.wrap (64 - (n : Int)) = (m : Int) := by rw [wrap_u64]; omega
  have hz : (m : Int) < 64 := by omega
  have HM := Lib.hid hm
  clear hm
  go_enter Tryd.func80, Tryd.ntmps80
  go_wp2
  go_ret
  refine ⟨?_, rfl⟩
  rw [← HM.out]
  unfold rotl64
  rw [show 64 - (64 - n) = n from by omega, UInt64.or_comm]; rfl

/-! ### numbers out of bytes -/
def be32 (a b c d : UInt8) : UInt32 := a.toUInt32 <<< 24 ||| b.toUInt32 <<< 16 ||| c.toUInt32 <<< 8 ||| d.toUInt32
def be64 (a b c d e f g h : UInt8) : UInt64 := a.toUInt64 <<< 56 ||| b.toUInt64 <<< 48 ||| c.toUInt64 <<< 40 ||| d.toUInt64 <<< 32 ||| e.toUInt64 <<< 24 ||| f.toUInt64 <<< 16 ||| g.toUInt64 <<< 8 ||| h.toUInt64
/-- The four bytes at place k. -/
def word32 (l : List UInt8) (k : Nat) : UInt32 := be32 (l.getD k 0) (l.getD (k + 1) 0) (l.getD (k + 2) 0) (l.getD (k + 3) 0)
def word64 (l : List UInt8) (k : Nat) : UInt64 := be64 (l.getD k 0) (l.getD (k + 1) 0) (l.getD (k + 2) 0) (l.getD (k + 3) 0) (l.getD (k + 4) 0) (l.getD (k + 5) 0) (l.getD (k + 6) 0) (l.getD (k + 7) 0)
theorem At.cellD {w : World} {b off : Nat} {l : List UInt8} (h : At w b off l) {k : Nat} (hk : k < l.length) : w.cell? ⟨b, off + k, none⟩ = some (B (l.getD k 0)) := by
  rw [h.cell hk]; simp [List.getD, hk]

theorem get32_any (b off n c : Nat) (l : List UInt8) (w : World) (h : At w b off l) (hn : n = l.length) (h4 : 4 ≤ n) :
    Calls Tryd.prog 89 #[.slice (some ⟨b, off, none⟩) n c] w fun e w' => e = .returned (U32 (word32 l 0)) ∧ ∃ k, w' = w.drewN k := by
  have c0 := h.cellD (k := 0) (by omega)
  have c1 := h.cellD (k := 1) (by omega)
  have c2 := h.cellD (k := 2) (by omega)
  have c3 := h.cellD (k := 3) (by omega)
  unfold word32
  simp only [Nat.add_zero, Nat.zero_add] at *
  generalize l.getD 0 0 = x0 at *
  generalize l.getD 1 0 = x1 at *
  generalize l.getD 2 0 = x2 at *
  generalize l.getD 3 0 = x3 at *
  have l0 : (0 : Int) < n := by omega
  have l1 : (1 : Int) < n := by omega
  have l2 : (2 : Int) < n := by omega
  have l3 : (3 : Int) < n := by omega
  have H := Lib.hid hn
  have H2 := Lib.hid h
  clear hn h
  go_enter Tryd.func89, Tryd.ntmps89
  go_wp2
  go_quiet (fail)
  go_wp2
  go_ret
  exact ⟨rfl, _, rfl⟩
theorem word_any (b off n c : Nat) (l : List UInt8) (w : World) (h : At w b off l) (hn : n = l.length) (h4 : 4 ≤ n) :
    Calls Tryd.prog 74 #[.slice (some ⟨b, off, none⟩) n c] w fun e w' => e = .returned (U32 (word32 l 0)) ∧ ∃ k, w' = w.drewN k := by
  have c0 := h.cellD (k := 0) (by omega)
  have c1 := h.cellD (k := 1) (by omega)
  have c2 := h.cellD (k := 2) (by omega)
  have c3 := h.cellD (k := 3) (by omega)
  unfold word32
  simp only [Nat.add_zero, Nat.zero_add] at *
  generalize l.getD 0 0 = x0 at *
  generalize l.getD 1 0 = x1 at *
  generalize l.getD 2 0 = x2 at *
  generalize l.getD 3 0 = x3 at *
  have l0 : (0 : Int) < n := by omega
  have l1 : (1 : Int) < n := by omega
  have l2 : (2 : Int) < n := by omega
  have l3 : (3 : Int) < n := by omega
  have H := Lib.hid hn
  have H2 := Lib.hid h
  clear hn h
  go_enter Tryd.func74, Tryd.ntmps74
  go_wp2
  go_quiet (fail)
  go_wp2
  go_ret
  exact ⟨rfl, _, rfl⟩
theorem get64_any (b off n c : Nat) (l : List UInt8) (w : World) (h : At w b off l) (hn : n = l.length) (h4 : 8 ≤ n) :
    Calls Tryd.prog 91 #[.slice (some ⟨b, off, none⟩) n c] w fun e w' => e = .returned (U64 (word64 l 0)) ∧ ∃ k, w' = w.drewN k := by
  have c0 := h.cellD (k := 0) (by omega)
  have c1 := h.cellD (k := 1) (by omega)
  have c2 := h.cellD (k := 2) (by omega)
  have c3 := h.cellD (k := 3) (by omega)
  have c4 := h.cellD (k := 4) (by omega)
  have c5 := h.cellD (k := 5) (by omega)
  have c6 := h.cellD (k := 6) (by omega)
  have c7 := h.cellD (k := 7) (by omega)
  unfold word64
  simp only [Nat.add_zero, Nat.zero_add] at *
  generalize l.getD 0 0 = x0 at *
  generalize l.getD 1 0 = x1 at *
  generalize l.getD 2 0 = x2 at *
  generalize l.getD 3 0 = x3 at *
  generalize l.getD 4 0 = x4 at *
  generalize l.getD 5 0 = x5 at *
  generalize l.getD 6 0 = x6 at *
  generalize l.getD 7 0 = x7 at *
  have l0 : (0 : Int) < n := by omega
  have l1 : (1 : Int) < n := by omega
  have l2 : (2 : Int) < n := by omega
  have l3 : (3 : Int) < n := by omega
  have l4 : (4 : Int) < n := by omega
  have l5 : (5 : Int) < n := by omega
  have l6 : (6 : Int) < n := by omega
  have l7 : (7 : Int) < n := by omega
  have H := Lib.hid hn
  have H2 := Lib.hid h
  clear hn h
  go_enter Tryd.func91, Tryd.ntmps91
  go_wp2
  go_quiet (fail)
  go_wp2
  go_ret
  exact ⟨rfl, _, rfl⟩
end Go.Proofs.YtddemlajfbagdaaDoor
