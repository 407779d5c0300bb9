/-
  mix: the columns of the state, by four factors.
-/
import Derived.Test.YtgkkafkdgmdihaaAesX
namespace Go.Proofs.Ytgkkafkdgmdihaa
open Go.RowKit

set_option maxHeartbeats 2000000 in
theorem mix_any (sb : Nat) (l : List UInt8) (f0 f1 f2 f3 : UInt8) (w : World) (h : St w sb l) :
    Calls Try.prog 23 #[.pointer (some ⟨sb, 0, none⟩), .agg #[B f0, B f1, B f2, B f3]] w fun e w' => e = .returned (.tuple #[]) ∧ St w' sb (mixN l [f0, f1, f2, f3] 4) ∧ Turn [sb] w w' := by
  have hF : St4 (w.alloc (.cells #[B f0, B f1, B f2, B f3] 43)) w.heap.size [f0, f1, f2, f3] := ⟨rfl, Blk.new _ _ _⟩
  obtain ⟨fs, hfs⟩ : ∃ fs, fs = [f0, f1, f2, f3] := ⟨_, rfl⟩
  rw [← hfs] at hF ⊢
  have hT0 : Turn [sb] w (w.alloc (.cells #[B f0, B f1, B f2, B f3] 43)) := (Turn.refl _ _).alloc _
  have hS0 := h.alloc_ (.cells #[B f0, B f1, B f2, B f3] 43)
  have hl := h.1
  have hlt0 := h.lt
  have HH := Lib.hid (And.intro hS0 (And.intro hF (And.intro hT0 hl)))
  clear hS0 hF hT0 hl h hfs
  go_enter Try.func23, Try.ntmps23
  go_wp2_with fail
  go_loopw [4] (fun iv wr => ∃ k : Nat, k ≤ 4 ∧ iv = .int .i64 (4 * (k : Int)) ∧ St wr sb (mixN l fs k) ∧ St4 wr w.heap.size fs ∧ Turn [sb] w wr) (fun iv _ => 16 - (intOf iv).toNat)
  case atStart => exact ⟨0, by omega, by go_num, HH.out.1, HH.out.2.1, HH.out.2.2.1⟩
  case round =>
    obtain ⟨k, hk, rfl, hS, hF, hT⟩ := hrel
    by_cases hlt : k < 4
    · have hq : (4 : Int) * k < 16 := by omega
      have hml := hS.1
      have hzt : St4 (wr.alloc (.cells #[.int .u8 0, .int .u8 0, .int .u8 0, .int .u8 0] 43)) wr.heap.size [0, 0, 0, 0] := ⟨rfl, Blk.new _ _ _⟩
      have hSa := hS.alloc_ (.cells #[.int .u8 0, .int .u8 0, .int .u8 0, .int .u8 0] 43)
      have hFa := hF.alloc_ (.cells #[.int .u8 0, .int .u8 0, .int .u8 0, .int .u8 0] 43)
      have hTa : Turn [sb] w (wr.alloc (.cells #[.int .u8 0, .int .u8 0, .int .u8 0, .int .u8 0] 43)) := hT.alloc _
      have n1 : sb ≠ wr.heap.size := by have := hS.lt; omega
      have n2 : w.heap.size ≠ wr.heap.size := by have := hF.2.lt; omega
      have hwl' : w.heap.size ≤ wr.heap.size := hT.size
      have HK := Lib.hid (And.intro hzt (And.intro hSa (And.intro hFa (And.intro hTa hml))))
      clear hS hF hT hzt hSa hFa hTa HH hml
      go_wp2_with fail
      generalize wr.alloc (.cells #[.int .u8 0, .int .u8 0, .int .u8 0, .int .u8 0] 43) = wc at *
      generalize wr.heap.size = tb at *
      generalize hM : mixN l fs k = M at *
      go_loopw [12] (fun iv wz => ∃ i : Nat, i ≤ 4 ∧ iv = .int .i64 (i : Int) ∧ St4 wz tb (mid i (mixC M fs (4 * k)) [0, 0, 0, 0]) ∧ Turn [tb] wc wz) (fun iv _ => 4 - (intOf iv).toNat)
      case atStart => exact ⟨0, by omega, rfl, by rw [mid_zero]; exact HK.out.1, Turn.refl _ _⟩
      case round =>
        obtain ⟨i, hi, rfl, hA, hT⟩ := hrel
        by_cases hilt : i < 4
        · have hiq : (i : Int) < 4 := by omega
          have HA := Lib.hid (And.intro hA hT)
          clear hA hT
          go_wp2_with fail
          go_loopw [15] (fun jv wy => ∃ j : Nat, j ≤ 4 ∧ jv = .int .i64 (j : Int) ∧ St4 wy tb ((mid i (mixC M fs (4 * k)) [0, 0, 0, 0]).set i (mixB M fs (4 * k) i j)) ∧ Turn [tb] wc wy) (fun jv _ => 4 - (intOf jv).toNat)
          case atStart =>
            refine ⟨0, by omega, rfl, ?_, HA.out.2⟩
            have h0 : (mid i (mixC M fs (4 * k)) [0, 0, 0, 0]).set i (mixB M fs (4 * k) i 0) = mid i (mixC M fs (4 * k)) [0, 0, 0, 0] := by
              refine List.ext_getElem? fun q => ?_
              rw [List.getElem?_set]
              by_cases e : i = q
              · subst e
                rw [if_pos rfl, if_pos (by rw [HA.out.1.1]; exact hilt), mid_at _ _ _ (by show i ≤ 4; omega) _ (Nat.le_refl _)]
                have : ∀ q, q < 4 → ([0, 0, 0, 0] : List UInt8)[q]? = some 0 := by decide
                rw [this i hilt]; rfl
              · rw [if_neg e]
            rw [h0]; exact HA.out.1
          case round =>
            obtain ⟨j, hj, rfl, hB, hT⟩ := hrel
            have hBl := hB.1
            by_cases hjlt : j < 4
            · have hjq : (j : Int) < 4 := by omega
              obtain ⟨x, hx⟩ := at16 M HK.out.2.2.2.2 (4 * k + j) (by omega)
              obtain ⟨p, hp⟩ : ∃ p, p = (j + 4 - i) % 4 := ⟨_, rfl⟩
              have hp4 : p < 4 := by omega
              obtain ⟨f, hf⟩ := at4 fs HK.out.2.2.1.1 p hp4
              have hF := HK.out.2.2.1.turn hT (by simp; exact n2)
              have hS := HK.out.2.1.turn hT (by simp; exact n1)
              have y0 := hB.cell i (mixB M fs (4 * k) i j) (by rw [List.getElem?_set, if_pos rfl, if_pos (by simpa using (by have := HA.out.1.1; omega))])
              have y1 := hB.frozen i
              have y2 := hS.cell _ x hx
              have y3 := hF.cell p f hf
              have g0 : IntKind.i64.wrap ((j : Int) - i) = (j : Int) - i := IntWalk.i64_in _ (by omega)
              have g1 : IntKind.i64.wrap ((j : Int) - i + 4) = (j : Int) - i + 4 := IntWalk.i64_in _ (by omega)
              have g2 : ((j : Int) - i + 4) % 4 = (p : Int) := by omega
              have g2' : ((j : Int) - i + 4).tmod 4 = (p : Int) := by rw [Int.tmod_eq_emod_of_nonneg (by omega)]; omega
              have g3 : (p : Int) < 4 := by omega
              have g4 : (0 : Int) ≤ (j : Int) - i + 4 := by omega
              have g5 : (4 : Int) * k + j < 16 := by omega
              have g6 : IntKind.i64.wrap ((4 : Int) * k + j) = (4 : Int) * k + j := IntWalk.i64_in _ (by omega)
              have g7 : ((4 : Int) * k + j).toNat = 4 * k + j := by omega
              have hnew : mixB M fs (4 * k) i (j + 1) = mixB M fs (4 * k) i j ^^^ gm x f := by
                show mixB M fs (4 * k) i j ^^^ gm (M.getD (4 * k + j) 0) (fs.getD ((j + 4 - i) % 4) 0) = _
                rw [← hp, List.getD_eq_getElem?_getD, hx, List.getD_eq_getElem?_getD, hf]; rfl
              have HB := Lib.hid (And.intro hB (And.intro hT hnew))
              generalize mixB M fs (4 * k) i j = X at *
              clear hB hT hnew hF hS hx hf hp hBl
              go_wp2_with fail
              have g8 : (0 : Int) ≤ 4 * k + j := by omega
              go_still_tail 20, (by kernel_rfl)
              still_call (times_still x f _)
              repeat still_step
              try refine wpStill_nil ?_
              go_wp2_with fail
              have h1 := HB.out.1.set_ i (X ^^^ gm x f)
              rw [List.set_set] at h1
              go_roundw
              case rel => exact ⟨j + 1, by omega, by go_num, by rw [HB.out.2.2]; exact h1.drew, (HB.out.2.1.setCell (p := ⟨tb, i, none⟩) (.inl (by simp)) _).drew⟩
              case measure => simp [intOf]; omega
            · obtain rfl : j = 4 := by omega
              have hjq : ¬ ((4 : Int) < 4) := by omega
              rw [mid_set _ _ _ _ (mixC_at _ _ _ _ hilt) (by show i < 4; exact hilt)] at hB
              have HB := Lib.hid (And.intro hB hT)
              clear hB hT hBl hj hjlt
              go_wp2_with fail
              exact ⟨⟨i + 1, by omega, by go_num, HB.out.1, HB.out.2⟩, by simp [intOf]; omega⟩
        · obtain rfl : i = 4 := by omega
          have hiq : ¬ ((4 : Int) < 4) := by omega
          rw [mid_all _ _ 4 rfl rfl] at hA
          have HA := Lib.hid (And.intro hA hT)
          clear hA hT hi hilt
          go_wp2_with fail
          have g1 : (4 : Int) * k ≤ 16 := by omega
          have g2 : (0 : Int) ≤ 4 * (k : Int) := by omega
          have g3 : ((4 : Int) * k).toNat = 4 * k := by omega
          have g4 : ¬ (16 = 4 * k) := by omega
          have hS := HK.out.2.1.turn HA.out.2 (by simp; exact n1)
          have hF := HK.out.2.2.1.turn HA.out.2 (by simp; exact n2)
          have hT2 : Turn [sb] w wr := HK.out.2.2.2.1.trans HA.out.2 (fun x hx => .inr (by simp at hx; subst hx; exact hwl'))
          have HS := Lib.hid (And.intro hS (And.intro hF hT2))
          clear hS hF hT2
          go_still_tail 5, (by kernel_rfl)
          go_wp2_with (refine wp_copySt rfl (.tmp 43) (.tmp 44) rfl sb (4 * k) (16 - 4 * k) (16 - 4 * k) M HS.out.1.drew rfl (by omega) (some ⟨tb, 0, none⟩) 4 4 _ rfl (show Rd wr.drew _ _ _ _ from HA.out.1.rd) (by omega) (by omega) ?_; intro wv hv hTv; have HV := Lib.hid (And.intro hv hTv); clear hv hTv)
          have hnx : mixN l fs (k + 1) = splice M (4 * k) ((mixC M fs (4 * k)).take (16 - 4 * k)) := by
            rw [List.take_of_length_le (by show 4 ≤ _; omega), ← hM]; rfl
          go_roundw
          case rel =>
            refine ⟨k + 1, by omega, by go_num, ?_, ?_, ?_⟩
            · rw [hnx]; exact HV.out.1
            · exact HS.out.2.1.drew.turn HV.out.2 (by simp; omega)
            · exact HS.out.2.2.drew.trans HV.out.2 (fun x hx => .inl hx)
          case measure => simp [intOf]; omega
    · obtain rfl : k = 4 := by omega
      have HX := Lib.hid (And.intro hS hT)
      clear hS hF hT hlt hk
      go_wp2_with fail
      go_end0
      exact ⟨rfl, HX.out.1, HX.out.2⟩
end Go.Proofs.Ytgkkafkdgmdihaa
