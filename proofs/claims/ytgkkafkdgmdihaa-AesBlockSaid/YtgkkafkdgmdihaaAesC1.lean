/-
  The reference's cipher in memory; its mix.
-/
import Derived.Test.YtgkkafkdgmdihaaAesBx
import Derived.Test.YtgkkafkdgmdihaaAesQ
import Derived.StillTailTactics
namespace Go.Proofs.Ytgkkafkdgmdihaa
open Go.RowKit

/-- The reference's cipher: c its place; block kb holds the round keys' slices. -/
def RCip (W : World) (c kb R cap g1 g2 : Nat) (ks : List UInt8) : Prop :=
  Blk W c 35 #[.slice (some ⟨kb, 0, none⟩) R cap, .slice (some ⟨g1, 0, none⟩) 256 256, .slice (some ⟨g2, 0, none⟩) 256 256] ∧ kb < W.heap.size ∧ ks.length = 16 * R ∧ 11 ≤ R ∧ R ≤ 15 ∧ R ≤ cap ∧
  (∀ i, i < R → ∃ gk o, W.cell? ⟨kb, i, none⟩ = some (.slice (some ⟨gk, o, none⟩) 16 16) ∧ Rd W (some ⟨gk, o, none⟩) 16 16 (key ks i)) ∧ Rd W (some ⟨g1, 0, none⟩) 256 256 boxL ∧ Rd W (some ⟨g2, 0, none⟩) 256 256 invL
theorem RCip.below {W W' : World} {c kb R cap g1 g2 : Nat} {ks : List UInt8} (h : RCip W c kb R cap g1 g2 ks) (hb : Below W.heap.size W W') : RCip W' c kb R cap g1 g2 ks := by
  obtain ⟨h1, h2, h3, h4, h5, h6, h7, h8, h9⟩ := h
  refine ⟨h1.below hb, Nat.lt_of_lt_of_le h2 hb.size, h3, h4, h5, h6, fun i hi => ?_, h8.below hb, h9.below hb⟩
  obtain ⟨gk, o, a, b⟩ := h7 i hi
  exact ⟨gk, o, by rw [hb.cell (p := ⟨kb, i, none⟩) h2]; exact a, b.below hb⟩
/-- The mixed bytes, all at once. -/
def rmix (l fs : List UInt8) : List UInt8 := (List.range 16).map fun p => mixB l fs (4 * (p / 4)) (p % 4) 4
theorem rmix_len (l fs : List UInt8) : (rmix l fs).length = 16 := by simp [rmix]
theorem rmix_at (l fs : List UInt8) (p : Nat) (h : p < 16) : (rmix l fs)[p]? = some (mixB l fs (4 * (p / 4)) (p % 4) 4) := by unfold rmix; rw [List.getElem?_map, List.getElem?_range h]; rfl
theorem rmix_eq (l : List UInt8) (f0 f1 f2 f3 : UInt8) (h : l.length = 16) : rmix l [f0, f1, f2, f3] = mixN l [f0, f1, f2, f3] 4 := by
  obtain ⟨x0, x1, x2, x3, x4, x5, x6, x7, x8, x9, x10, x11, x12, x13, x14, x15, rfl⟩ := list16 l h
  rfl
theorem rtimes_still (b f : UInt8) (w : World) : Calls Try.prog 22 #[B b, B f] w fun e w' => e = .returned (B (gm b f)) ∧ w' = w := (rtimes_any b f w).mono fun _ _ h => ⟨h.1, h.2.symm⟩
set_option maxRecDepth 100000 in
set_option maxHeartbeats 2000000 in
theorem rmix_any (A C : Option Addr) (ca cc : Nat) (l fs : List UInt8) (w : World) (hl : Rd w A 16 ca l) (hf : Rd w C 4 cc fs) :
    Calls Try.prog 27 #[.slice A 16 ca, .slice C 4 cc] w fun e w' => e = .returned (.slice (some ⟨w.heap.size, 0, none⟩) 16 16) ∧ Own w' w.heap.size (.slice (some ⟨w.heap.size, 0, none⟩) 16 16) (rmix l fs) ∧ Below w.heap.size w w' := by
  have hll : l.length = 16 := hl.1.symm
  have hfl : fs.length = 4 := hf.1.symm
  have hca := hl.2.1
  have hcc := hf.2.1
  obtain ⟨bl, ol, rfl, hal⟩ := hl.addr (by omega)
  obtain ⟨bf, of_, rfl, haf⟩ := hf.addr (by omega)
  obtain ⟨X, hX⟩ : ∃ X, w.heap.size = X := ⟨_, rfl⟩
  have hmk := Try.prog_make 16 (by omega) w
  obtain ⟨w1, hw1⟩ : ∃ w1, w.alloc (.cells (madeCells #[.int .u8 0] 16) 5) = w1 := ⟨_, rfl⟩
  have hO1 : Own w1 X (.slice (some ⟨X, 0, none⟩) 16 16) (zs 16) := by rw [← hw1, ← hX]; exact Own.made w 16 (by unfold maxLen; omega)
  have hB1 : Below X w w1 := by rw [← hw1, ← hX]; exact (Below.refl _ _).alloc (Nat.le_refl _) _
  rw [hw1, hX, show ((16 : Nat) : Int) = 16 from rfl] at hmk
  have hblX : bl < X := by rw [← hX]; exact hal.1
  have hbfX : bf < X := by rw [← hX]; exact haf.1
  have HH := Lib.hid (And.intro hal (And.intro haf (And.intro hll (And.intro hfl (And.intro hO1 hB1)))))
  clear hal haf hl hf hll hfl hO1 hB1 hw1
  rw [hX]
  go_enter Try.func27, Try.ntmps27
  go_wp2_with fail
  clear hmk
  go_loopw [6] (fun iv wr => ∃ i : Nat, i ≤ 4 ∧ iv = .int .i64 (i : Int) ∧ Own wr X (.slice (some ⟨X, 0, none⟩) 16 16) (mid (4 * i) (rmix l fs) (zs 16)) ∧ Below X w wr) (fun iv _ => 4 - (intOf iv).toNat)
  case atStart => exact ⟨0, by omega, rfl, by rw [Nat.mul_zero, mid_zero]; exact HH.out.2.2.2.2.1, HH.out.2.2.2.2.2⟩
  case round =>
    obtain ⟨i, hi, rfl, hO, hB⟩ := hrel
    by_cases hlt : i < 4
    · have hq : (i : Int) < 4 := by omega
      have HO := Lib.hid (And.intro hO hB)
      clear hO hB
      go_wp2_with fail
      go_loopw [7] (fun rv wz => ∃ r : Nat, r ≤ 4 ∧ rv = .int .i64 (r : Int) ∧ Own wz X (.slice (some ⟨X, 0, none⟩) 16 16) (mid (4 * i + r) (rmix l fs) (zs 16)) ∧ Below X w wz) (fun rv _ => 4 - (intOf rv).toNat)
      case atStart => exact ⟨0, by omega, rfl, HO.out.1, HO.out.2⟩
      case round =>
        obtain ⟨r, hr, rfl, hO, hB⟩ := hrel
        clear HO
        by_cases hrlt : r < 4
        · have hrq : (r : Int) < 4 := by omega
          have HO := Lib.hid (And.intro hO hB)
          clear hO hB
          go_wp2_with fail
          go_loopw [8, 9] (fun xv kv wy => ∃ k : Nat, k ≤ 4 ∧ kv = .int .i64 (k : Int) ∧ xv = B (mixB l fs (4 * i) r k) ∧ Own wy X (.slice (some ⟨X, 0, none⟩) 16 16) (mid (4 * i + r) (rmix l fs) (zs 16)) ∧ Below X w wy) (fun _ kv _ => 4 - (intOf kv).toNat)
          case atStart => exact ⟨0, by omega, rfl, rfl, HO.out.1, HO.out.2⟩
          case round =>
            obtain ⟨k, hk, rfl, rfl, hO, hB⟩ := hrel
            clear HO
            by_cases hklt : k < 4
            · have hkq : (k : Int) < 4 := by omega
              obtain ⟨x, hx⟩ := at16 l HH.out.2.2.1 (4 * i + k) (by omega)
              obtain ⟨p, hp⟩ : ∃ p, p = (k + 4 - r) % 4 := ⟨_, rfl⟩
              have hp4 : p < 4 := by omega
              obtain ⟨f, hf⟩ := at4 fs HH.out.2.2.2.1 p hp4
              have y2 : wr.cell? ⟨bl, ol + (4 * i + k), none⟩ = some (B x) := by rw [hB.cell (p := ⟨bl, ol + (4 * i + k), none⟩) hblX]; exact HH.out.1.2 _ x hx
              have y3 : wr.cell? ⟨bf, of_ + p, none⟩ = some (B f) := by rw [hB.cell (p := ⟨bf, of_ + p, none⟩) hbfX]; exact HH.out.2.1.2 _ f hf
              have g0 : IntKind.i64.wrap ((k : Int) - r) = (k : Int) - r := IntWalk.i64_in _ (by omega)
              have g1 : IntKind.i64.wrap ((k : Int) - r + 4) = (k : Int) - r + 4 := IntWalk.i64_in _ (by omega)
              have g2 : ((k : Int) - r + 4).tmod 4 = (p : Int) := by rw [Int.tmod_eq_emod_of_nonneg (by omega)]; omega
              have g2' : ((k : Int) - r + 4) % 4 = (p : Int) := by omega
              have g3 : (p : Int) < 4 := by omega
              have g5 : (4 : Int) * i + k < 16 := by omega
              have g6 : IntKind.i64.wrap ((4 : Int) * i + k) = (4 : Int) * i + k := IntWalk.i64_in _ (by omega)
              have g6' : IntKind.i64.wrap ((4 : Int) * i) = (4 : Int) * i := IntWalk.i64_in _ (by omega)
              have g7 : ((4 : Int) * i + k).toNat = 4 * i + k := by omega
              have g8 : (0 : Int) ≤ 4 * i + k := by omega
              have g9 : (4 : Int) * i + k < ca := by omega
              have g10 : (p : Int) < cc := by omega
              have hnew : mixB l fs (4 * i) r (k + 1) = mixB l fs (4 * i) r k ^^^ gm x f := by
                show mixB l fs (4 * i) r k ^^^ gm (l.getD (4 * i + k) 0) (fs.getD ((k + 4 - r) % 4) 0) = _
                rw [← hp, List.getD_eq_getElem?_getD, hx, List.getD_eq_getElem?_getD, hf]; rfl
              have HB := Lib.hid (And.intro hO (And.intro hB hnew))
              generalize mixB l fs (4 * i) r k = Z at *
              clear hO hB hnew hx hf hp
              go_wp2_with fail
              go_still_tail 18, (by kernel_rfl)
              still_call (rtimes_still x f _)
              repeat still_step
              try refine wpStill_nil ?_
              go_wp2_with fail
              go_roundw
              case rel => exact ⟨k + 1, by omega, by go_num, by rw [HB.out.2.2], HB.out.1, HB.out.2.1.drew⟩
              case measure => simp [intOf]; omega
            · obtain rfl : k = 4 := by omega
              have hkq : ¬ ((4 : Int) < 4) := by omega
              obtain ⟨z, hz⟩ := at16 (mid (4 * i + r) (rmix l fs) (zs 16)) hO.len.symm (4 * i + r) (by omega)
              have y0 := hO.cell _ z hz
              have y1 := hO.frozen (4 * i + r)
              have g5 : (4 : Int) * i + r < 16 := by omega
              have g6 : IntKind.i64.wrap ((4 : Int) * i + r) = (4 : Int) * i + r := IntWalk.i64_in _ (by omega)
              have g6' : IntKind.i64.wrap ((4 : Int) * i) = (4 : Int) * i := IntWalk.i64_in _ (by omega)
              have g7 : ((4 : Int) * i + r).toNat = 4 * i + r := by omega
              have g8 : (0 : Int) ≤ 4 * i + r := by omega
              have hat := rmix_at l fs (4 * i + r) (by omega)
              rw [show (4 * i + r) / 4 = i by omega, show (4 * i + r) % 4 = r by omega] at hat
              have HB := Lib.hid (And.intro hO (And.intro hB hat))
              generalize mixB l fs (4 * i) r 4 = Z at *
              clear hO hB hat hz hk hklt
              go_wp2_with fail
              have h1 := HB.out.1.set_ (4 * i + r) Z (by omega)
              rw [mid_set _ _ _ _ HB.out.2.2 (by rw [zs_len]; omega)] at h1
              have hT : Turn [X] wr (wr.setCell ⟨X, 4 * i + r, none⟩ (B Z)) := (Turn.refl _ _).setCell (p := ⟨X, 4 * i + r, none⟩) (.inl (by simp)) _
              go_roundw
              case rel => exact ⟨r + 1, by omega, by go_num, h1, below_turn HB.out.2.1 hT (by simp) (by rw [← hX]; exact HB.out.2.1.size)⟩
              case measure => simp [intOf]; omega
        · obtain rfl : r = 4 := by omega
          have hrq : ¬ ((4 : Int) < 4) := by omega
          have HB := Lib.hid (And.intro hO hB)
          clear hO hB hr hrlt
          go_wp2_with fail
          go_roundw
          case rel => exact ⟨i + 1, by omega, by go_num, by rw [Nat.mul_add]; exact HB.out.1, HB.out.2⟩
          case measure => simp [intOf]; omega
    · obtain rfl : i = 4 := by omega
      have hq : ¬ ((4 : Int) < 4) := by omega
      rw [mid_all _ _ 16 (rmix_len l fs) (zs_len 16)] at hO
      have HB := Lib.hid (And.intro hO hB)
      clear hO hB hi hlt
      go_wp2_with fail
      go_ret
      exact ⟨rfl, HB.out.1, HB.out.2⟩
end Go.Proofs.Ytgkkafkdgmdihaa
