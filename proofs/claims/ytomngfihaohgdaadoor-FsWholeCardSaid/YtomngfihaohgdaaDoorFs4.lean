/-
  blockfs: the heads that stand on a device.
-/
import Derived.Test.YtomngfihaohgdaaDoorFsA
import Derived.Test.YtomngfihaohgdaaDoorWBe
import Derived.Test.YtomngfihaohgdaaDoorShort
import Derived.Test.YtomngfihaohgdaaDoorRange
import Derived.RangeFuncBound
import Derived.RangeFuncCalls
import Derived.OwnWalkIn
import Derived.TacticsInMore
import Derived.LoopNIn
import Derived.LoopIn
namespace Go.Proofs.YtomngfihaohgdaaDoor
set_option maxRecDepth 100000
open Go.RowKit
attribute [local go_sem] Oper.semAt_some

/-- What a head says: none, or so many commits. -/
def HeadIs (s : Dsk) (k : Nat) : Option Nat → Prop
  | none => s.rd k = zs 256
  | some c => c < 1000000 ∧ c % 2 = k ∧ s.rd k = headB c
def recArg (cl : Nat → Option Nat) (k : Nat) (args : Array Value) (_ : World) : Prop := args = #[.int .i64 ((cl k).getD 0 : Nat), .bool (cl k).isSome]
def recMine (bx d L : Nat) (s : Dsk) (_ : Nat) (W : World) : Prop := W.cell? ⟨bx, 0, none⟩ = some (.pointer (some ⟨d, 0, none⟩)) ∧ DkAt W d L s ∧ KAt W ∧ bx < W.heap.size
theorem recMine.below {bx d L k : Nat} {s : Dsk} {w w' : World} (h : recMine bx d L s k w) (hb : Below w.heap.size w w') : recMine bx d L s k w' :=
  ⟨(hb.cell (p := ⟨bx, 0, none⟩) h.2.2.2).trans h.1, h.2.1.below hb, h.2.2.1.below hb, Nat.lt_of_lt_of_le h.2.2.2 hb.size⟩
theorem word_zs : word64 ((zs 256).drop 16) 0 = 0 := by decide
theorem word_head (c : Nat) : word64 ((headB c).drop 16) 0 = UInt64.ofNat c := by
  have : (headB c).drop 16 = bytes64 (UInt64.ofNat c) ++ (headH c ++ zs 200) := by
    unfold headB headA
    rw [List.append_assoc, List.append_assoc]
    exact List.drop_left' rfl
  rw [this, word64_bytes64]
theorem slice16 (g c : Nat) (hc : 256 ≤ c) (w : World) : (Instr.slice 40 (.slice (some ⟨g, 0, none⟩) 256 c) (some (.int .i64 16)) none none).run Tryd.prog w = .ok (.slice (some ⟨g, 16, none⟩) 240 (c - 16)) w := by
  have := slice_from (some ⟨g, 0, none⟩) 256 c 16 (by omega) w
  rw [if_neg (by omega)] at this
  exact this
set_option maxHeartbeats 2000000 in
theorem records_iter (bx d L : Nat) (s : Dsk) (cl : Nat → Option Nat) (hcl : ∀ k, k < 2 → HeadIs s k (cl k)) (hn : 2 ≤ s.n) :
    Iter Tryd.prog 39 #[.pointer (some ⟨bx, 0, none⟩)] (recArg cl) (recMine bx d L s) 2 [] := by
  intro l J Jx W hJ hJx hY h0 hM
  refine callsIn_of_wp Tryd.func39 rfl trivial ?_ rfl
  simp only [Tryd.ntmps39, List.size_toArray, List.length_cons, List.length_nil, Nat.reduceAdd, Nat.reduceSub, Array.replicate_succ, Array.replicate_zero, List.push_toArray, List.append_toArray, List.nil_append, List.cons_append]
  have HM := Lib.hid hM
  have HY := Lib.hid hY
  have HC := Lib.hid hcl
  clear hM hY hcl
  gi_wp2
  gi_loopw [6] (fun i wr => ∃ k : Nat, k ≤ 2 ∧ i = .int .i64 (k : Int) ∧ J k wr ∧ recMine bx d L s k wr) (fun i _ => 2 - (intOf i).toNat)
  case atStart => exact ⟨0, by omega, rfl, h0, HM.out⟩
  case round =>
    obtain ⟨k, hk, rfl, hJk, hMk⟩ := hrel
    clear h0
    by_cases hlt : k < 2
    · have hki : (k : Int) < 2 := by omega
      have hbx := hMk.1
      have hR := dkread_any d L s wr hMk.2.1 k (by omega)
      have hcl := HC.out k hlt
      have hyA := fun W1 (hj : J k W1) (hm : recMine bx d L s k W1) => HY.out k #[.int .i64 ((cl k).getD 0 : Nat), .bool (cl k).isSome] W1 hlt hj hm rfl
      have HK := Lib.hid (And.intro hMk hJk)
      have HA := Lib.hid hyA
      obtain ⟨r, hr⟩ : ∃ r, s.rd k = r := ⟨_, rfl⟩
      rw [hr] at hR
      clear hMk hJk hyA
      gi_wp2_with (fail)
      refine ⟨trivial, ?_⟩
      refine (callsIn_wide.2 hR).mono ?_
      rintro e w1 ⟨g1, c1, rfl, hO1, hl1, hb1⟩
      have hs16 := slice16 g1 c1 (by have := hO1.rd.2.1; omega) w1
      obtain ⟨c, hc⟩ : ∃ c, (cl k).getD 0 = c := ⟨_, rfl⟩
      obtain ⟨wh, hwh⟩ : ∃ wh, (cl k).isSome = wh := ⟨_, rfl⟩
      have hfac : c < 1000000 ∧ U64 (word64 (r.drop 16) 0) = .int .u64 (c : Int) ∧ ((wh = true ∧ c % 2 = k ∧ r = headB c) ∨ (wh = false ∧ c = 0 ∧ k = 0 ∧ r ≠ headB 0) ∨ (wh = false ∧ c = 0 ∧ k = 1)) := by
        cases hk2 : cl k with
        | none =>
          rw [hk2] at hcl hc hwh
          have hz : r = zs 256 := by rw [← hr]; exact hcl
          subst hc hwh
          refine ⟨by decide, by rw [hz, word_zs]; rfl, .inr ?_⟩
          rcases (show k = 0 ∨ k = 1 by omega) with rfl | rfl
          · exact .inl ⟨rfl, rfl, rfl, by rw [hz]; exact head0_ne⟩
          · exact .inr ⟨rfl, rfl, rfl⟩
        | some c' =>
          rw [hk2] at hcl hc hwh
          have hz := hcl
          subst hc hwh
          obtain ⟨z1, z2, z3⟩ := hz
          rw [hr] at z3
          refine ⟨z1, ?_, .inl ⟨rfl, z2, z3⟩⟩
          rw [z3, word_head]
          unfold U64
          rw [UInt64.toNat_ofNat', Nat.mod_eq_of_lt (show c' < 2 ^ 64 by omega)]; rfl
      obtain ⟨hc6, hU, hcase⟩ := hfac
      have hG := get64_any g1 16 240 (c1 - 16) (r.drop 16) w1 (by have := hO1.at_.drop 16; rwa [Nat.zero_add] at this) (by simp [hl1]) (by omega)
      rw [hU] at hG
      have H1 := Lib.hid (And.intro hO1.rd hb1)
      have HQ := Lib.hid (And.intro hc (And.intro hwh (And.intro hcase hr)))
      have hcm : (c : Int).tmod 2 = ((c % 2 : Nat) : Int) := by rw [Int.tmod_eq_emod_of_nonneg (by omega)]; omega
      have hcw : IntKind.i64.wrap (c : Int) = (c : Int) := IntWalk.i64_in _ (by omega)
      have hcb : (c : Int) < 1000000 := by omega
      clear hR hO1 hb1 hc hwh hcase hcl hr hU
      gi_wp2_with (fail)
      refine ⟨trivial, ?_⟩
      refine (callsIn_wide.2 hG).mono ?_
      rintro e w2 ⟨rfl, kk, hw2⟩
      have ho2 : Old w1 w2 := by rw [hw2]; exact (Old.refl w1).drewN kk
      have H2 := Lib.hid (And.intro (H1.out.1.below ho2) (H1.out.2.trans (ho2.mono H1.out.2.size)))
      clear hG hs16 hw2 ho2
      rcases HQ.out.2.2.1 with ⟨hw, hck, hre⟩ | ⟨hw, hc0, hk0, hre⟩ | ⟨hw, hc0, hk1⟩
      · rw [hck] at hcm
        have hh := head_any c hc6 w2 (HK.out.1.2.2.1.below H2.out.2)
        clear hck
        gi_wp2_with (fail)
        refine ⟨trivial, ?_⟩
        refine (callsIn_wide.2 hh).mono ?_
        rintro e w3 ⟨A3, n3, c3, rfl, hO3, hb3⟩
        have heq := equalB_any (some ⟨g1, 0, none⟩) 256 c1 A3 n3 c3 r (headB c) w3 (H2.out.1.below hb3) hO3.rd
        rw [decide_eq_true hre] at heq
        have H3 := Lib.hid (H2.out.2.trans (hb3.mono H2.out.2.size))
        clear hh hO3 hb3 hre
        gi_wp2_with (fail)
        refine ⟨trivial, ?_⟩
        refine (callsIn_wide.2 heq).mono ?_
        rintro e w' ⟨rfl, rfl⟩
        clear heq
        obtain ⟨fn, tmps, assign, body, hy, hR⟩ := HA.out w3 (hJ _ _ _ HK.out.2 (Turn.of_below [] H3.out)) (HK.out.1.below H3.out)
        rw [HQ.out.1, HQ.out.2.1, hw] at hy
        have HR := Lib.hid hR
        clear hR
        gi_wp2
        refine HR.out.mono ?_
        rintro e W' (⟨rfl, hJ', hM'⟩ | ⟨rfl, hJx'⟩)
        · have HM2 := Lib.hid (And.intro hJ' hM')
          clear hJ' hM'
          gi_wp2
          go_roundw
          case rel => exact ⟨k + 1, by omega, by go_num, HM2.out.1, HM2.out.2⟩
          case measure => simp [intOf]; omega
        · gi_wp2
          refine bodyPost_ret (results_none rfl _ _ _) rfl ?_
          exact ⟨⟨_, rfl⟩, .inr ⟨_, hlt, hJx'⟩⟩
      · have hh := head_any c hc6 w2 (HK.out.1.2.2.1.below H2.out.2)
        subst hc0 hk0
        clear hcm
        gi_wp2_with (fail)
        refine ⟨trivial, ?_⟩
        refine (callsIn_wide.2 hh).mono ?_
        rintro e w3 ⟨A3, n3, c3, rfl, hO3, hb3⟩
        have heq := equalB_any (some ⟨g1, 0, none⟩) 256 c1 A3 n3 c3 r (headB 0) w3 (H2.out.1.below hb3) hO3.rd
        rw [decide_eq_false hre] at heq
        have H3 := Lib.hid (H2.out.2.trans (hb3.mono H2.out.2.size))
        clear hh hO3 hb3 hre
        gi_wp2_with (fail)
        refine ⟨trivial, ?_⟩
        refine (callsIn_wide.2 heq).mono ?_
        rintro e w' ⟨rfl, rfl⟩
        clear heq
        obtain ⟨fn, tmps, assign, body, hy, hR⟩ := HA.out w3 (hJ _ _ _ HK.out.2 (Turn.of_below [] H3.out)) (HK.out.1.below H3.out)
        rw [HQ.out.1, HQ.out.2.1, hw, show ((0 : Nat) : Int) = 0 from rfl] at hy
        have HR := Lib.hid hR
        clear hR
        gi_wp2
        refine HR.out.mono ?_
        rintro e W' (⟨rfl, hJ', hM'⟩ | ⟨rfl, hJx'⟩)
        · have HM2 := Lib.hid (And.intro hJ' hM')
          clear hJ' hM'
          gi_wp2
          go_roundw
          case rel => exact ⟨1, by omega, by go_num, HM2.out.1, HM2.out.2⟩
          case measure => simp [intOf]
        · gi_wp2
          refine bodyPost_ret (results_none rfl _ _ _) rfl ?_
          exact ⟨⟨_, rfl⟩, .inr ⟨_, hlt, hJx'⟩⟩
      · subst hc0 hk1
        clear hcm
        have H3 := Lib.hid H2.out.2
        obtain ⟨w3, hw3⟩ : ∃ w3, w3 = w2 := ⟨_, rfl⟩
        subst hw3
        obtain ⟨fn, tmps, assign, body, hy, hR⟩ := HA.out w3 (hJ _ _ _ HK.out.2 (Turn.of_below [] H3.out)) (HK.out.1.below H3.out)
        rw [HQ.out.1, HQ.out.2.1, hw, show ((0 : Nat) : Int) = 0 from rfl] at hy
        have HR := Lib.hid hR
        clear hR
        gi_wp2_with (fail)
        refine ⟨trivial, ?_⟩
        gi_wp2_with (fail)
        refine ⟨trivial, ?_⟩
        gi_wp2
        refine HR.out.mono ?_
        rintro e W' (⟨rfl, hJ', hM'⟩ | ⟨rfl, hJx'⟩)
        · have HM2 := Lib.hid (And.intro hJ' hM')
          clear hJ' hM'
          gi_wp2
          go_roundw
          case rel => exact ⟨2, by omega, by go_num, HM2.out.1, HM2.out.2⟩
          case measure => simp [intOf]
        · gi_wp2
          refine bodyPost_ret (results_none rfl _ _ _) rfl ?_
          exact ⟨⟨_, rfl⟩, .inr ⟨_, hlt, hJx'⟩⟩
    · obtain rfl : k = 2 := by omega
      have HJ := Lib.hid hJk
      clear hJk hMk hk hlt
      gi_wp2
      go_end0
      exact ⟨⟨_, rfl⟩, .inl HJ.out⟩
end Go.Proofs.YtomngfihaohgdaaDoor
