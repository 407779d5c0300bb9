/-
  Decrypt.
  A range over a function, by rounds that are counted: a law for the statement, and what is asked of the iterator. Over any program.
-/
import Derived.Test.YtiocmebcbhbcmaaZzAesY
import Derived.Laws.Cover3
import Derived.Deep.DeepCutAuto
import Derived.Deep.CutBlock
import Derived.Test.YtiocmebcbhbcmaaBase
import Derived.RangeFuncNested
import Derived.RangeFuncLeaves
namespace Go.Proofs.Ytiocmebcbhbcmaa
open Go.RowKit

def Z16 : Array Value := #[.int .u8 0, .int .u8 0, .int .u8 0, .int .u8 0, .int .u8 0, .int .u8 0, .int .u8 0, .int .u8 0, .int .u8 0, .int .u8 0, .int .u8 0, .int .u8 0, .int .u8 0, .int .u8 0, .int .u8 0, .int .u8 0]
theorem z16_map : Z16 = ((zs 16).map B).toArray := rfl
theorem st_new (w : World) : St (w.alloc (.cells Z16 74)) w.heap.size (zs 16) := ⟨rfl, by rw [z16_map]; exact Blk.new _ _ _⟩
theorem Cip.below {W W' : World} {b0 c : Nat} {ks : List UInt8} {K R cp : Nat} (h : Cip W b0 c ks K R cp) (hb : Below W.heap.size W W') : Cip W' b0 c ks K R cp := by
  obtain ⟨h1, h2, h3, h4, h5, h6, h7, h8, h9, h10, h11⟩ := h
  refine ⟨⟨h1.1, h1.2.1, h1.2.2.below hb⟩, h2, h3, Nat.lt_of_lt_of_le h4 hb.size, h5, h6, h7, h8, h9, h10, fun j x hx => ?_⟩
  rw [hb.cell (p := ⟨K, j, none⟩) h4]; exact h11 j x hx
def key (ks : List UInt8) (i : Nat) : List UInt8 := (ks.drop (16 * i)).take 16
theorem key_len (ks : List UInt8) (R i : Nat) (h : ks.length = 16 * R) (hi : i < R) : (key ks i).length = 16 := by unfold key; rw [List.length_take, List.length_drop]; omega
theorem Cip.rd {W : World} {b0 c : Nat} {ks : List UInt8} {K R cp : Nat} (h : Cip W b0 c ks K R cp) (i : Nat) (hi : i < R) : Rd W (some ⟨K, i * 16, none⟩) 16 16 (key ks i) := by
  rw [Nat.mul_comm]
  obtain ⟨h1, h2, h3, h4, h5, h6, h7, h8, h9, h10, h11⟩ := h
  refine ⟨(key_len ks R i h6 hi).symm, Nat.le_refl _, by unfold maxLen; omega, .inr ⟨K, 16 * i, rfl, h4, fun k x hx => h11 _ _ ?_⟩⟩
  unfold key at hx
  rw [List.getElem?_take] at hx
  split at hx
  · rwa [List.getElem?_drop] at hx
  · cases hx
/-- The place to which byte j goes. -/
def shp (j : Nat) : Nat := (j + j % 4 * 4) % 16
def decN (l : List UInt8) : Nat → List UInt8
  | 0 => zs 16
  | j + 1 => (decN l j).set (shp j) (si (l.getD j 0))
theorem decN_len (l : List UInt8) (j : Nat) : (decN l j).length = 16 := by
  induction j with
  | zero => rfl
  | succ j ih => unfold decN; rw [List.length_set]; exact ih
def decM (R i : Nat) (s : List UInt8) : List UInt8 := if i < R - 1 then mixN s [14, 11, 13, 9] 4 else s
def decF (ks : List UInt8) (R : Nat) : Nat → List UInt8 → List UInt8
  | 0, s => xorL s (key ks 0)
  | i + 1, s => decF ks R i (decN (decM R (i + 1) (xorL s (key ks (i + 1)))) 16)
def decL (ks : List UInt8) (R : Nat) (l : List UInt8) : List UInt8 := decF ks R (R - 1) l
theorem list16 (l : List UInt8) (h : l.length = 16) : ∃ x0 x1 x2 x3 x4 x5 x6 x7 x8 x9 x10 x11 x12 x13 x14 x15 : UInt8, l = [x0, x1, x2, x3, x4, x5, x6, x7, x8, x9, x10, x11, x12, x13, x14, x15] := by
  match l, h with
  | [x0, x1, x2, x3, x4, x5, x6, x7, x8, x9, x10, x11, x12, x13, x14, x15], _ => exact ⟨x0, x1, x2, x3, x4, x5, x6, x7, x8, x9, x10, x11, x12, x13, x14, x15, rfl⟩
set_option maxRecDepth 100000 in
set_option maxHeartbeats 4000000 in
theorem dec_any (b0 c : Nat) (ks : List UInt8) (K R cp : Nat) (A : Option Addr) (cb : Nat) (l : List UInt8) (w : World) (h : Cip w b0 c ks K R cp) (hr : Rd w A 16 cb l) :
    Calls Try.prog 57 #[.pointer (some ⟨c, 0, none⟩), .slice A 16 cb] w fun e w' => ∃ sb : Nat, e = .returned (.slice (some ⟨sb, 0, none⟩) 16 16) ∧ w.heap.size ≤ sb ∧ St w' sb (decL ks R l) ∧ Below w.heap.size w w' := by
  have hl : l.length = 16 := hr.1.symm
  obtain ⟨bb, off, rfl, ha⟩ := hr.addr (by omega)
  have hR1 : 11 ≤ R := h.2.2.2.2.2.2.1
  have hR2 : R ≤ 15 := h.2.2.2.2.2.2.2.1
  have hR2' : (R : Int) ≤ 15 := by omega
  have hR1' : (11 : Int) ≤ R := by omega
  have c0 : w.cell? ⟨c, 0, none⟩ = some (.slice (some ⟨K, 0, none⟩) R cp) := by rw [h.1.2.2.cell 0]; rfl
  have hclt := h.1.2.2.lt
  obtain ⟨x0, x1, x2, x3, x4, x5, x6, x7, x8, x9, x10, x11, x12, x13, x14, x15, hl16⟩ := list16 l hl
  have hrng : w.rangeAt bb off [B x0, B x1, B x2, B x3, B x4, B x5, B x6, B x7, B x8, B x9, B x10, B x11, B x12, B x13, B x14, B x15] := fun j v hv => by
    have hv' : (l.map B)[j]? = some v := by rw [hl16]; exact hv
    rw [List.getElem?_map] at hv'
    obtain ⟨x, hx, rfl⟩ := Option.map_eq_some_iff.1 hv'
    exact ha.2 j x hx
  have hcb : 16 ≤ cb := hr.2.1
  have hat : ∀ w, (Instr.arrayAt 74 (.slice (some ⟨bb, off, none⟩) 16 cb)).run Try.prog w = .ok (.pointer (some ⟨bb, off, none⟩)) w := fun w => run_arrayAt w 74 _ 16 _ 16 _ Try.underlying74 (by decide)
  have hSt : St (w.alloc (.cells #[B x0, B x1, B x2, B x3, B x4, B x5, B x6, B x7, B x8, B x9, B x10, B x11, B x12, B x13, B x14, B x15] 74)) w.heap.size l := by rw [hl16]; exact ⟨rfl, Blk.new _ _ _⟩
  have hb1 : Below w.heap.size w (w.alloc (.cells #[B x0, B x1, B x2, B x3, B x4, B x5, B x6, B x7, B x8, B x9, B x10, B x11, B x12, B x13, B x14, B x15] 74)) := (Below.refl _ _).alloc (Nat.le_refl _) _
  have HH := Lib.hid (And.intro h (And.intro hrng (And.intro hl (And.intro hSt hb1))))
  clear h hrng hr ha hl hl16 hSt hb1
  go_enter Try.func57, Try.ntmps57
  go_wp2_with (refine wpList_load_mid rfl 74 (.tmp 17) rfl bb off rfl [B x0, B x1, B x2, B x3, B x4, B x5, B x6, B x7, B x8, B x9, B x10, B x11, B x12, B x13, B x14, B x15] _ HH.out.2.1 Try.underlying74 rfl rfl ?_)
  go_loopw [6] (fun iv wr => ∃ (i : Nat) (s : List UInt8), i < R ∧ iv = .int .i64 (i : Int) ∧ St wr w.heap.size s ∧ decF ks R i s = decL ks R l ∧ Below w.heap.size w wr) (fun iv _ => (intOf iv).toNat)
  case atStart => exact ⟨R - 1, l, by omega, by go_num, HH.out.2.2.2.1, rfl, HH.out.2.2.2.2⟩
  case round =>
    obtain ⟨i, s, hi, rfl, hS, hD, hB⟩ := hrel
    have hC := HH.out.1.below hB
    have q1 : (0 : Int) ≤ i := by omega
    have q2 : (i : Int) < R := by omega
    have q3 : w.heap.size < wr.heap.size := hS.lt
    have z0 : wr.cell? ⟨c, 0, none⟩ = some (.slice (some ⟨K, 0, none⟩) R cp) := by rw [hC.1.2.2.cell 0]; rfl
    have hcr : c < wr.heap.size := hC.1.2.2.lt
    have hKne : K ≠ w.heap.size := by have := HH.out.1.2.2.2.1; omega
    have hKr := hC.rd i hi
    have HA := Lib.hid (add_any w.heap.size s (some ⟨K, i * 16, none⟩) 16 (key ks i) wr hS hKr (fun ad h => by cases h; exact hKne))
    have HR := Lib.hid (And.intro hC (And.intro hD (And.intro hB hi)))
    have hxl : (xorL s (key ks i)).length = 16 := xorL_len _ _ 16 hS.1 hKr.1.symm
    clear hC hD hB hKr hi hS
    have hst : ∀ w2 w3, Turn [w.heap.size] wr w2 → Turn [w.heap.size] w2 w3 → Turn [w.heap.size] wr w3 ∧ w3.cell? ⟨c, 0, none⟩ = some (.slice (some ⟨K, 0, none⟩) R cp) ∧ c < w3.heap.size := fun w2 w3 h2 h3 => by
      have ht := h2.trans h3 (fun x hx => .inl hx)
      refine ⟨ht, ?_, Nat.lt_of_lt_of_le hcr ht.size⟩
      rw [World.cell?_of_block (a := ⟨c, 0, none⟩) (ht.block c hcr (by simp; omega))]; exact z0
    have HSt := Lib.hid hst
    clear hst
    have z5 : (0 : Int) ≤ R := by omega
    go_upto_if 38 with (go_at_call 74; go_must (refine HA.out.mono ?_); rintro e w2 ⟨rfl, hS2, hT2⟩; obtain ⟨hT2', z2, hc2⟩ := HSt.out _ _ (Turn.refl _ _) hT2; have H2 := Lib.hid (And.intro hS2 hT2); clear hS2 hT2 hT2')
    by_cases h0 : i = 0
    · have h0' : ((i : Int) == 0) = true := by simp; omega
      go_wp2_with fail
      go_ret
      refine ⟨w.heap.size, rfl, Nat.le_refl _, ?_, below_turn HR.out.2.2.1 H2.out.2 (by simp) HR.out.2.2.1.size⟩
      have hd := HR.out.2.1
      have hs2 := H2.out.1
      subst h0
      rw [← hd]; exact hs2
    · have h0' : ((i : Int) == 0) = false := by simp; omega
      obtain ⟨i', rfl⟩ : ∃ i', i = i' + 1 := ⟨i - 1, by omega⟩
      have q4 : IntKind.i64.wrap ((R : Int) - 1) = (R : Int) - 1 := IntWalk.i64_in _ (by omega)
      generalize hs1 : xorL s (key ks (i' + 1)) = s1 at *
      go_upto_if 46 with fail
      go_cut [6] from 25 to 68 (fun v wx => v = .int .i64 ((i' : Int) + 1) ∧ St wx w.heap.size (decM R (i' + 1) s1) ∧ Turn [w.heap.size] wr wx)
      case first =>
        by_cases hm : i' + 1 < R - 1
        · have hm' : decide (((i' + 1 : Nat) : Int) < (R : Int) - 1) = true := decide_eq_true (by omega)
          have hm2 : (i' : Int) + 1 < (R : Int) - 1 := by omega
          have hMix : Calls Try.prog 73 #[.pointer (some ⟨w.heap.size, 0, none⟩), .agg #[.int .u8 14, .int .u8 11, .int .u8 13, .int .u8 9]] w2 fun e w' => e = .returned (.tuple #[]) ∧ St w' w.heap.size (mixN s1 [14, 11, 13, 9] 4) ∧ Turn [w.heap.size] w2 w' := mix_any w.heap.size s1 14 11 13 9 w2 H2.out.1
          have HM := Lib.hid hMix
          have hdm : decM R (i' + 1) s1 = mixN s1 [14, 11, 13, 9] 4 := by unfold decM; rw [if_pos hm]
          have HDM := Lib.hid hdm
          clear hMix hdm
          go_wp2_with (go_at_call 73; go_must (refine HM.out.mono ?_); rintro e w3 ⟨rfl, hS3, hT3⟩; have H3 := Lib.hid (And.intro hS3 hT3); clear hS3 hT3)
          go_meet
          case rel => exact ⟨by go_num, by rw [HDM.out]; exact H3.out.1, H2.out.2.trans H3.out.2 (fun x hx => .inl hx)⟩
        · have hm' : decide (((i' + 1 : Nat) : Int) < (R : Int) - 1) = false := decide_eq_false (by omega)
          have hm2 : ¬ ((i' : Int) + 1 < (R : Int) - 1) := by omega
          have hdm : decM R (i' + 1) s1 = s1 := by unfold decM; rw [if_neg hm]
          have HDM := Lib.hid hdm
          clear hdm
          go_wp2_with fail
          go_meet
          case rel => exact ⟨by go_num, by rw [HDM.out]; exact H2.out.1, H2.out.2⟩
      case rest =>
        obtain ⟨rfl, hS3, hT3⟩ := hcut
        generalize hs2 : decM R (i' + 1) s1 = s2 at *
        have hs3 := hS3.1
        have hB3 := below_turn HR.out.2.2.1 hT3 (by simp) HR.out.2.2.1.size
        have hC3 := HH.out.1.below hB3
        have n1 : w.heap.size ≠ wc.heap.size := by have := hS3.lt; omega
        have n2 : c ≠ wc.heap.size := by have := hC3.1.2.2.lt; omega
        have hwc : w.heap.size ≤ wc.heap.size := hB3.size
        have hZ := st_new wc
        have hS3a := hS3.alloc_ (.cells Z16 74)
        have hC3a : CAt (wc.alloc (.cells Z16 74)) c _ boxL invL := ⟨hC3.1.1, hC3.1.2.1, hC3.1.2.2.alloc _⟩
        have hB3a : Below w.heap.size w (wc.alloc (.cells Z16 74)) := hB3.alloc hB3.size _
        have HZ := Lib.hid (And.intro hZ (And.intro hS3a (And.intro hC3a (And.intro hB3a hs3))))
        clear hZ hS3a hC3a hB3a hs3 hB3 hC3 hS3 hT3 H2 z0 z2 hc2 HA HSt
        unfold Z16 at HZ
        go_wp2_with fail
        generalize wc.alloc (.cells #[.int .u8 0, .int .u8 0, .int .u8 0, .int .u8 0, .int .u8 0, .int .u8 0, .int .u8 0, .int .u8 0, .int .u8 0, .int .u8 0, .int .u8 0, .int .u8 0, .int .u8 0, .int .u8 0, .int .u8 0, .int .u8 0] 74) = wd at *
        generalize wc.heap.size = tb at *
        go_loopw [49] (fun jv wz => ∃ j : Nat, j ≤ 16 ∧ jv = .int .i64 (j : Int) ∧ St wz tb (decN s2 j) ∧ Turn [tb] wd wz) (fun jv _ => 16 - (intOf jv).toNat)
        case atStart => exact ⟨0, by omega, rfl, HZ.out.1, Turn.refl _ _⟩
        case round =>
          obtain ⟨j, hj, rfl, hA, hT⟩ := hrel
          by_cases hlt : j < 16
          · have hq : (j : Int) < 16 := by omega
            obtain ⟨x, hx⟩ := at16 s2 HZ.out.2.2.2.2 j hlt
            have hS := HZ.out.2.1.turn hT (by simp; exact n1)
            have y2 := hS.cell j x hx
            have hC : CAt wr c _ boxL invL := ⟨HZ.out.2.2.1.1, HZ.out.2.2.1.2.1, HZ.out.2.2.1.2.2.turn hT (by simp; exact n2)⟩
            have y3 := hC.invCell _ _ (inv_at x)
            have e3 : (x.toNat : Int) < 256 := by have := x.toNat_lt; omega
            obtain ⟨p, hp⟩ : ∃ p, p = shp j := ⟨_, rfl⟩
            have hp' : p = (j + j % 4 * 4) % 16 := hp
            have hp16 : p < 16 := by omega
            obtain ⟨m, hm⟩ : ∃ m, m = j % 4 := ⟨_, rfl⟩
            have g0 : (j : Int).tmod 4 = (m : Int) := by rw [Int.tmod_eq_emod_of_nonneg (by omega)]; omega
            have g1 : IntKind.i64.wrap ((m : Int) * 4) = (m : Int) * 4 := IntWalk.i64_in _ (by omega)
            have g2 : IntKind.i64.wrap ((j : Int) + (m : Int) * 4) = (j : Int) + (m : Int) * 4 := IntWalk.i64_in _ (by omega)
            have g6 : ((j : Int) + (m : Int) * 4).tmod 16 = (p : Int) := by rw [Int.tmod_eq_emod_of_nonneg (by omega)]; omega
            have g4 : (p : Int) < 16 := by omega
            obtain ⟨y, hy⟩ := at16 (decN s2 j) hA.1 p hp16
            have y0 := hA.cell p y hy
            have y1 := hA.frozen p
            have hnew : decN s2 (j + 1) = (decN s2 j).set p (si x) := by
              show (decN s2 j).set (shp j) (si (s2.getD j 0)) = _
              rw [← hp, List.getD_eq_getElem?_getD, hx]; rfl
            have HB := Lib.hid (And.intro hA (And.intro hT hnew))
            clear hA hT hnew hS hC hx hp hp' hy hm
            go_wp2_with fail
            go_still_tail 15, (by kernel_rfl)
            go_wp2_with fail
            have h1 := HB.out.1.set_ p (si x)
            go_roundw
            case rel => exact ⟨j + 1, by omega, by go_num, by rw [HB.out.2.2]; exact h1.drew, (HB.out.2.1.setCell (p := ⟨tb, p, none⟩) (.inl (by simp)) _).drew⟩
            case measure => simp [intOf]; omega
          · obtain rfl : j = 16 := by omega
            have hq : ¬ ((16 : Int) < 16) := by omega
            have hS := HZ.out.2.1.turn hT (by simp; exact n1)
            have hB := below_turn HZ.out.2.2.2.1 hT (by simp; exact hwc) HZ.out.2.2.2.1.size
            have hdl := decN_len s2 16
            have hd := HR.out.2.1
            have hd2 : decF ks R (i' + 1) s = decF ks R i' (decN s2 16) := by
              show decF ks R i' (decN (decM R (i' + 1) (xorL s (key ks (i' + 1)))) 16) = _
              rw [hs1, hs2]
            have HX := Lib.hid (And.intro hA (And.intro hS (And.intro hB (And.intro hdl (hd2.symm.trans hd)))))
            clear hA hT hS hB hdl hd hd2 hj hlt
            generalize decN s2 16 = s3 at *
            go_wp2_with (first | (refine wpList_load_arr rfl 74 (.tmp 7) rfl tb 74 _ HX.out.1.2 rfl _ Try.underlying74 rfl (by rw [show (s3.map B).toArray.size = 16 by simp [HX.out.2.2.2.1]]; rfl) ?_) | (refine wpList_store_arr rfl 74 (.tmp 5) _ rfl w.heap.size 74 _ (s3.map B) HX.out.2.1.2 rfl rfl (by rw [List.length_map, HX.out.2.2.2.1]; rfl) (by simp [HX.out.2.2.2.1, HX.out.2.1.1]) (by rw [List.all_eq_true]; exact map_one s3) ?_; intro w5 hB5 hT5; have H5 := Lib.hid (And.intro hB5 hT5); clear hB5 hT5))
            have hS5 : St w5 w.heap.size s3 := ⟨HX.out.2.2.2.1, H5.out.1⟩
            exact ⟨⟨i', s3, by have := HR.out.2.2.2; omega, rfl, hS5, HX.out.2.2.2.2, below_turn HX.out.2.2.1 H5.out.2 (by simp) HX.out.2.2.1.size⟩, by first | (simp [intOf]; done) | (simp [intOf]; omega)⟩
end Go.Proofs.Ytiocmebcbhbcmaa
namespace Go.Proofs.Ytiocmebcbhbcmaa
open Go.RowKit

theorem Turn.putObj {S : List Nat} {w w' : World} (h : Turn S w w') {l : Nat} (hl : l ∈ S ∨ w.heap.size ≤ l) (o : Obj) : Turn S w (w'.putObj l o) :=
  h.grown (grownBy_putObj' w' l o) (fun k hk => by cases hk; exact hl)

/-- WHAT AN ITERATOR DOES, called with a round's function: at most N rounds, the k-th with arguments of which Arg is true; J is the caller's word between two rounds, Jx when a round has said 'no more'; Mine is what the iterator itself
needs of memory; T are the blocks that it writes. -/
def Iter (P : Program) (gf : Nat) (lb : Array Value) (Arg : Nat → Array Value → World → Prop) (Mine : Nat → World → Prop) (N : Nat) (T : List Nat) : Prop :=
  ∀ (l : Nat) (J Jx : Nat → World → Prop) (W : World),
    (∀ k W1 W2, J k W1 → Turn T W1 W2 → J k W2) → (∀ k W1 W2, Jx k W1 → Turn T W1 W2 → Jx k W2) →
    (∀ k args W1, k < N → J k W1 → Mine k W1 → Arg k args W1 → YieldAt Fence.wide 2 P l args W1 fun e W' =>
      (e = .returned (.bool true) ∧ J (k + 1) W' ∧ Mine k W') ∨ (e = .returned (.bool false) ∧ Jx k W')) →
    J 0 W → Mine 0 W →
    CallsIn Fence.wide 3 P gf (#[.func (.yield l) #[] #[]] ++ lb) W fun e W' => (∃ v, e = .returned v) ∧ (J N W' ∨ ∃ k, k < N ∧ Jx k W')

/-- What the body of a round keeps: the two blocks of book-keeping. -/
def KeepsTwo (D : Nat) (W W' : World) : Prop := ∃ S, Turn S W W' ∧ D ∉ S ∧ D + 1 ∉ S

/-- How the body of the k-th round may be left. -/
def roundEnds (D : Nat) (I : Nat → World → Prop) (Ix : Code → Nat → World → Prop) (Mine : Nat → World → Prop) (k : Nat) (W : World) : Exit → Act → World → Prop
  | .normal, _, W' => KeepsTwo D W W' ∧ I (k + 1) W' ∧ Mine k W'
  | .ret, _, W' => KeepsTwo D W W' ∧ Ix .ret k W'
  | .exit id, _, W' => KeepsTwo D W W' ∧ Ix (.exit id) k W'
  | .goto t, _, W' => KeepsTwo D W W' ∧ Ix (.goto t) k W'
  | .panic _, _, _ => False
  | .outgrown, _, _ => False

/-- The statement 'for .. := range g { .. }'. D: the heap's size where it begins: the blocks of book-keeping are D and D + 1. -/
theorem wp_range {P : Program} {g : Operand} {ps : Array Tmp} {assign body : Code} {Q : Exit → Act → World → Prop} {a : Act} {w : World}
    {gf : Nat} {lb : Array Value} {Arg : Nat → Array Value → World → Prop} {Mine : Nat → World → Prop} {N : Nat} {T : List Nat}
    (hg : a.eval g = .func (.func gf) #[] lb) (eg : ∀ args w, (callFunc gf args).run P w = .ok (.enter gf args) w)
    (hit : Iter P gf lb Arg Mine N T) (hps : ∀ k args W, Arg k args W → args.size = ps.size) (hT : ∀ t ∈ T, t < w.heap.size)
    (I : Nat → World → Prop) (Ix : Code → Nat → World → Prop)
    (hI : ∀ k W1 W2 S, I k W1 → Turn S W1 W2 → (∀ t ∈ S, t ∈ T ∨ (t = w.heap.size + 1 ∧ ∃ r, W1.heap[t]? = some (.loop r))) → I k W2)
    (hIx : ∀ c k W1 W2 S, Ix c k W1 → Turn S W1 W2 → (∀ t ∈ S, t ∈ T ∨ (t = w.heap.size + 1 ∧ ∃ r, W1.heap[t]? = some (.loop r))) → Ix c k W2)
    (hM : ∀ k W1 W2, Mine k W1 → (∃ r, W1.heap[w.heap.size + 1]? = some (.loop r)) → Turn [w.heap.size + 1] W1 W2 → Mine k W2)
    (hA : ∀ k args W1 W2, Arg k args W1 → (∃ r, W1.heap[w.heap.size + 1]? = some (.loop r)) → Turn [w.heap.size + 1] W1 W2 → Arg k args W2)
    (h0 : I 0 w) (hM0 : Mine 0 w) (hM1 : ∀ W, Turn [] w W → Mine 0 w → Mine 0 W) (a₁ : Array Value → Act)
    (hassign : ∀ (l : Nat) (args : Array Value) (k : Nat) (W : World) (K : Act → World → Prop), Arg k args W → K (a₁ args) W →
      assign.wpIn (Fence.wide.inRound l) 2 P (Exit.then K (fun _ _ _ => False)) { tmps := (ps.zip args).foldl (fun t (p, v) => t.setIfInBounds p v) a.tmps, defers := [] } W)
    (hbody : ∀ (l k : Nat) (args : Array Value) (W : World), k < N → w.heap.size + 1 < W.heap.size → I k W → Mine k W → Arg k args W → body.wpIn (Fence.wide.inRound l) 2 P (roundEnds w.heap.size I Ix Mine k W) (a₁ args) W)
    (hdone : ∀ (W : World), w.heap.size + 1 < W.heap.size → I N W → W.heap[w.heap.size]? = some (.deferred (some [])) → Q .normal { a with defers := { target := .collected w.heap.size, args := #[] } :: a.defers } W)
    (hstop : ∀ (c : Code) (k : Nat) (W : World), w.heap.size + 1 < W.heap.size → k < N → Ix c k W → W.heap[w.heap.size]? = some (.deferred (some [])) → c.wp P Q { a with defers := { target := .collected w.heap.size, args := #[] } :: a.defers } W) :
    (Code.rangeFunc g ps assign body).wp P Q a w := by
  refine (wpIn_wide (n := 4)).1 (wpIn_rangeFunc ?_)
  intro fn hfn
  rw [Fence.wide_round]
  obtain ⟨rec, hrec⟩ : ∃ rec : LoopState → Option Code → Loop, rec = fun st pe => { state := st, pending := pe, fn, tmps := a.tmps, params := ps, assign, body, defers := w.heap.size } := ⟨_, rfl⟩
  obtain ⟨W1, hW1⟩ : ∃ W1, (w.alloc (.deferred (some []))).alloc (.loop (rec .ready none)) = W1 := ⟨_, rfl⟩
  have hL1 : W1.heap[w.heap.size + 1]? = some (.loop (rec .ready none)) := by
    rw [← hW1]; have := World.alloc_heap_new (w.alloc (.deferred (some []))) (.loop (rec .ready none)); rwa [World.size_alloc] at this
  have hK1 : W1.heap[w.heap.size]? = some (.deferred (some [])) := by
    rw [← hW1]; exact (Below.heap_alloc _ _ _ (by simp)).trans (World.alloc_heap_new w _)
  have hT1 : Turn [] w W1 := by rw [← hW1]; exact ((Turn.refl _ _).alloc _).alloc _
  have hI1 : I 0 W1 := hI 0 w W1 [] h0 hT1 (by simp)
  have hMine1 : Mine 0 W1 := hM1 W1 hT1 hM0
  have hTD : w.heap.size ∉ T ∧ w.heap.size + 1 ∉ T := ⟨fun h => by have := hT _ h; omega, fun h => by have := hT _ h; omega⟩
  refine ⟨w.heap.size + 1, [{ target := .collected w.heap.size, args := #[] }], W1, { target := .fn (.func gf) lb, args := #[.func (.yield (w.heap.size + 1)) #[] #[]] }, W1, gf,
    #[.func (.yield (w.heap.size + 1)) #[] #[]] ++ lb, W1, ?_, ?_, ?_, ?_, fun h => by simp [Fence.wide] at h, ?_⟩
  · rw [← hW1, hrec]; exact run_enterLoop_outer _ _ _ _ _
  · simp only [resolve, hg]
    simp [go_sem]
  · intro f' hf'; exact trivial
  · simp [invoke, go_sem, eg]
  · refine (hit (w.heap.size + 1)
      (fun k W => I k W ∧ W.heap[w.heap.size + 1]? = some (.loop (rec .ready none)) ∧ W.heap[w.heap.size]? = some (.deferred (some [])))
      (fun k W => ∃ c, Ix c k W ∧ W.heap[w.heap.size + 1]? = some (.loop (rec .done (some c))) ∧ W.heap[w.heap.size]? = some (.deferred (some [])))
      W1 ?_ ?_ ?_ ⟨hI1, hL1, hK1⟩ hMine1).mono ?_
    · rintro k A B ⟨hi, hl, hk⟩ ht
      have hlt : w.heap.size + 1 < A.heap.size := (Array.getElem?_eq_some_iff.1 hl).1
      exact ⟨hI k A B T hi ht (fun t h => .inl h), (ht.block _ hlt hTD.2).trans hl, (ht.block _ (by omega) hTD.1).trans hk⟩
    · rintro k A B ⟨c, hi, hl, hk⟩ ht
      have hlt : w.heap.size + 1 < A.heap.size := (Array.getElem?_eq_some_iff.1 hl).1
      exact ⟨c, hIx c k A B T hi ht (fun t h => .inl h), (ht.block _ hlt hTD.2).trans hl, (ht.block _ (by omega) hTD.1).trans hk⟩
    · rintro k args W hkN ⟨hi, hl, hk⟩ hmine harg
      have hlt : w.heap.size + 1 < W.heap.size := (Array.getElem?_eq_some_iff.1 hl).1
      have hy := run_yield (P := P) (args := args) hl (by rw [hrec]; exact hps k args W harg)
      rw [hrec] at hy
      refine ⟨fn, _, assign, body, hy, roundIn_of_wpIn hfn (hassign _ args k W _ harg ?_)⟩
      clear hy
      refine ⟨_, run_beginRound hl (by rw [hrec]), ?_⟩
      have hl2 : (W.putObj (w.heap.size + 1) (.loop { rec .ready none with state := .busy })).heap[w.heap.size + 1]? = some (.loop { rec .ready none with state := .busy }) := World.putObj_heap_same hlt
      have hk2 : (W.putObj (w.heap.size + 1) (.loop { rec .ready none with state := .busy })).heap[w.heap.size]? = some (.deferred (some [])) := (World.putObj_heap_other (by omega)).trans hk
      have ht2 : Turn [w.heap.size + 1] W (W.putObj (w.heap.size + 1) (.loop { rec .ready none with state := .busy })) := (Turn.refl _ W).putObj (.inl (by simp)) _
      refine wpIn_mono (hbody _ k args _ hkN (by simpa using hlt) (hI _ _ _ _ hi ht2 (fun t h => .inr (by simp at h; subst h; exact ⟨rfl, _, hl⟩))) (hM _ _ _ hmine ⟨_, hl⟩ ht2) (hA _ _ _ _ harg ⟨_, hl⟩ ht2)) ?_
      have fin : ∀ (jump : Option Code) (W3 : World), KeepsTwo w.heap.size (W.putObj (w.heap.size + 1) (.loop { rec .ready none with state := .busy })) W3 →
          (Instr.endRound (w.heap.size + 1) jump).run P W3 = .ok (.bool jump.isNone) (W3.putObj (w.heap.size + 1) (.loop (rec (if jump.isNone then .ready else .done) jump))) ∧
          W3.heap[w.heap.size + 1]? = some (.loop { rec .ready none with state := .busy }) ∧
          (W3.putObj (w.heap.size + 1) (.loop (rec (if jump.isNone then .ready else .done) jump))).heap[w.heap.size + 1]? = some (.loop (rec (if jump.isNone then .ready else .done) jump)) ∧
          (W3.putObj (w.heap.size + 1) (.loop (rec (if jump.isNone then .ready else .done) jump))).heap[w.heap.size]? = some (.deferred (some [])) := fun jump W3 hk3 => by
        obtain ⟨S, ht, hs1, hs2⟩ := hk3
        have hl3 := (ht.block _ (by simpa using hlt) hs2).trans hl2
        have hk3 := (ht.block _ (by simp; omega) hs1).trans hk2
        have := run_endRound (P := P) jump hl3
        rw [hrec] at this ⊢
        exact ⟨this, by rw [hrec] at hl3; exact hl3, World.putObj_heap_same (Array.getElem?_eq_some_iff.1 hl3).1, (World.putObj_heap_other (by omega)).trans hk3⟩
      have ht4 : ∀ (W3 : World) (o : Obj), Turn [w.heap.size + 1] W3 (W3.putObj (w.heap.size + 1) o) := fun W3 o => (Turn.refl _ W3).putObj (.inl (by simp)) _
      rintro e a3 W3 hp
      cases e with
      | normal =>
        obtain ⟨hk3, hi3, hm3⟩ := hp
        obtain ⟨hr, hl3, hl4, hk4⟩ := fin none W3 hk3
        exact ⟨_, _, hr, .inl ⟨rfl, ⟨hI _ _ _ _ hi3 (ht4 _ _) (fun t h => .inr (by simp at h; subst h; exact ⟨rfl, _, hl3⟩)), hl4, hk4⟩, hM _ _ _ hm3 ⟨_, hl3⟩ (ht4 _ _)⟩⟩
      | ret =>
        obtain ⟨hk3, hi3⟩ := hp
        obtain ⟨hr, hl3, hl4, hk4⟩ := fin (some .ret) W3 hk3
        exact ⟨_, _, hr, .inr ⟨rfl, .ret, hIx _ _ _ _ _ hi3 (ht4 _ _) (fun t h => .inr (by simp at h; subst h; exact ⟨rfl, _, hl3⟩)), hl4, hk4⟩⟩
      | exit id =>
        obtain ⟨hk3, hi3⟩ := hp
        obtain ⟨hr, hl3, hl4, hk4⟩ := fin (some (.exit id)) W3 hk3
        exact ⟨_, _, hr, .inr ⟨rfl, .exit id, hIx _ _ _ _ _ hi3 (ht4 _ _) (fun t h => .inr (by simp at h; subst h; exact ⟨rfl, _, hl3⟩)), hl4, hk4⟩⟩
      | goto t =>
        obtain ⟨hk3, hi3⟩ := hp
        obtain ⟨hr, hl3, hl4, hk4⟩ := fin (some (.goto t)) W3 hk3
        exact ⟨_, _, hr, .inr ⟨rfl, .goto t, hIx _ _ _ _ _ hi3 (ht4 _ _) (fun t h => .inr (by simp at h; subst h; exact ⟨rfl, _, hl3⟩)), hl4, hk4⟩⟩
      | panic ch => exact hp.elim
      | outgrown => exact hp.elim
    · have ht4 : ∀ (W3 : World) (o : Obj), Turn [w.heap.size + 1] W3 (W3.putObj (w.heap.size + 1) o) := fun W3 o => (Turn.refl _ W3).putObj (.inl (by simp)) _
      rintro e W2 ⟨⟨v, rfl⟩, (⟨hi, hl, hk⟩ | ⟨k, hkN, c, hi, hl, hk⟩)⟩
      · have hlt : w.heap.size + 1 < W2.heap.size := (Array.getElem?_eq_some_iff.1 hl).1
        exact ⟨none, _, by have := run_endLoop (P := P) hl (by rw [hrec]; simp); rw [hrec] at this; exact this,
          hdone _ (by simpa using hlt) (hI _ _ _ _ hi (ht4 _ _) (fun t h => .inr (by simp at h; subst h; exact ⟨rfl, _, hl⟩))) ((World.putObj_heap_other (by omega)).trans hk)⟩
      · have hlt : w.heap.size + 1 < W2.heap.size := (Array.getElem?_eq_some_iff.1 hl).1
        exact ⟨some c, _, by have := run_endLoop (P := P) hl (by rw [hrec]; simp); rw [hrec] at this; exact this,
          wpIn_wide.2 (hstop c k _ (by simpa using hlt) hkN (hIx _ _ _ _ _ hi (ht4 _ _) (fun t h => .inr (by simp at h; subst h; exact ⟨rfl, _, hl⟩))) ((World.putObj_heap_other (by omega)).trans hk))⟩

/-- The same, where nothing is assigned ahead of a round's body. -/
theorem wp_range0 {P : Program} {g : Operand} {ps : Array Tmp} {body : Code} {Q : Exit → Act → World → Prop} {a : Act} {w : World}
    {gf : Nat} {lb : Array Value} {Arg : Nat → Array Value → World → Prop} {Mine : Nat → World → Prop} {N : Nat} {T : List Nat}
    (hg : a.eval g = .func (.func gf) #[] lb) (eg : ∀ args w, (callFunc gf args).run P w = .ok (.enter gf args) w)
    (hit : Iter P gf lb Arg Mine N T) (hps : ∀ k args W, Arg k args W → args.size = ps.size) (hT : ∀ t ∈ T, t < w.heap.size)
    (I : Nat → World → Prop) (Ix : Code → Nat → World → Prop)
    (hI : ∀ k W1 W2 S, I k W1 → Turn S W1 W2 → (∀ t ∈ S, t ∈ T ∨ (t = w.heap.size + 1 ∧ ∃ r, W1.heap[t]? = some (.loop r))) → I k W2)
    (hIx : ∀ c k W1 W2 S, Ix c k W1 → Turn S W1 W2 → (∀ t ∈ S, t ∈ T ∨ (t = w.heap.size + 1 ∧ ∃ r, W1.heap[t]? = some (.loop r))) → Ix c k W2)
    (hM : ∀ k W1 W2, Mine k W1 → (∃ r, W1.heap[w.heap.size + 1]? = some (.loop r)) → Turn [w.heap.size + 1] W1 W2 → Mine k W2)
    (hA : ∀ k args W1 W2, Arg k args W1 → (∃ r, W1.heap[w.heap.size + 1]? = some (.loop r)) → Turn [w.heap.size + 1] W1 W2 → Arg k args W2)
    (h0 : I 0 w) (hM0 : Mine 0 w) (hM1 : ∀ W, Turn [] w W → Mine 0 W)
    (hbody : ∀ (l k : Nat) (args : Array Value) (W : World), k < N → w.heap.size + 1 < W.heap.size → I k W → Mine k W → Arg k args W →
      body.wpIn (Fence.wide.inRound l) 2 P (roundEnds w.heap.size I Ix Mine k W) { tmps := (ps.zip args).foldl (fun t (p, v) => t.setIfInBounds p v) a.tmps, defers := [] } W)
    (hdone : ∀ (W : World), w.heap.size + 1 < W.heap.size → I N W → W.heap[w.heap.size]? = some (.deferred (some [])) → Q .normal { a with defers := { target := .collected w.heap.size, args := #[] } :: a.defers } W)
    (hstop : ∀ (c : Code) (k : Nat) (W : World), w.heap.size + 1 < W.heap.size → k < N → Ix c k W → W.heap[w.heap.size]? = some (.deferred (some [])) → c.wp P Q { a with defers := { target := .collected w.heap.size, args := #[] } :: a.defers } W) :
    (Code.rangeFunc g ps .skip body).wp P Q a w :=
  wp_range hg eg hit hps hT I Ix hI hIx hM hA h0 hM0 (fun W ht _ => hM1 W ht) (fun args => { tmps := (ps.zip args).foldl (fun t (p, v) => t.setIfInBounds p v) a.tmps, defers := [] })
    (fun _ _ _ _ _ _ hK => wpIn_skip hK) hbody hdone hstop

/-- A function's contract from its body, where the body holds a range over a function. -/
theorem calls_of_marks {P : Program} {f : FuncId} {fn : Func} {c : Code} {args : Array Value} {w : World} {R : Ending → World → Prop} (hf : P.funcs[f]? = some fn) (hb : fn.body = some c)
    (h : c.wp P (bodyPostM Fence.wide 3 P fn R) { tmps := args ++ Array.replicate (fn.ntmps - args.size) undef, defers := [] } w) : Calls P f args w R :=
  callsIn_wide.1 (callsIn_of_wp_marks (F := Fence.wide) (n := 3) hf hb trivial (wpIn_wide.2 h))

/-- Its return, with the mark. -/
theorem ret_mark {P : Program} {fn : Func} {R : Ending → World → Prop} {a : Act} {W : World} {D : Nat} {v : Value} (hd : a.defers = [{ target := .collected D, args := #[] }]) (hK : W.heap[D]? = some (.deferred (some [])))
    (hres : ∀ W', (results fn a.tmps).run P W' = .ok v W') (hR : R (.returned v) (W.putObj D (.deferred none))) : bodyPostM Fence.wide 3 P fn R .ret a W := by
  show LeavesInM Fence.wide 3 P fn a.tmps R a.defers .returning W
  rw [hd]
  exact ⟨by simp, .inl ⟨_, _, rfl, run_takeDeferred hK, _, hres _, hR⟩⟩
/-- Its return, ahead of the loop. -/
theorem ret_bare {P : Program} {fn : Func} {R : Ending → World → Prop} {a : Act} {W : World} {v : Value} (hd : a.defers = [])
    (hres : (results fn a.tmps).run P W = .ok v W) (hR : R (.returned v) W) : bodyPostM Fence.wide 3 P fn R .ret a W := by
  show LeavesInM Fence.wide 3 P fn a.tmps R a.defers .returning W
  rw [hd]
  exact ⟨_, hres, hR⟩
end Go.Proofs.Ytiocmebcbhbcmaa
