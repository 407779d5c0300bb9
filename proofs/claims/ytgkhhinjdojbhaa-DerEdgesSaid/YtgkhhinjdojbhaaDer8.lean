/-
  DER: tag and length ahead of bytes.
-/
import Derived.Test.YtgkhhinjdojbhaaNumA
namespace Go.Proofs.Ytgkhhinjdojbhaa
open Go.RowKit

theorem B_byteI (t : Int) : B (byteI t) = .int .u8 (t % 256) := by
  unfold B byteI
  rw [UInt8.toNat_ofNat']
  congr 1
  omega
theorem B_small {n : Nat} (h : n < 256) : B (UInt8.ofNat n) = .int .u8 (n : Int) := by
  unfold B
  rw [UInt8.toNat_ofNat', Nat.mod_eq_of_lt (by omega)]
theorem Own.one {w : World} {g base : Nat} {x : UInt8} (h : Blk w g 5 #[B x]) (hg : base ≤ g) : Own w base (.slice (some ⟨g, 0, none⟩) 1 1) [x] :=
  Own.of_cells (l := [x]) (cur := [B x]) h hg rfl (by decide) (Nat.le_refl _) rfl
theorem OwnE.nilc {α : Type} {E : ETy α} {w : World} {base : Nat} {A : Option Addr} {n c : Nat} {l : List α} (h : OwnE E w base (.slice A n c) l) : A = none → c = 0 := by
  rintro rfl
  obtain ⟨h1, h2⟩ := h
  rcases h2 with ⟨h2, _⟩ | ⟨g, c', cs, h2, _⟩
  · injection h2
  · injection h2 with h2; cases h2
theorem lenB_big {n : Nat} (h : ¬ n < 128) : lenB n = UInt8.ofNat (128 + (beMin n).length) :: beMin n := by unfold lenB; rw [if_neg h]
theorem trim_one {x : UInt64} (h : x ≠ 0) : trimL [x] = [x] := trimL_snoc (l := []) h
set_option maxRecDepth 100000 in
set_option maxHeartbeats 4000000 in
theorem headed_any (tag : Int) (A : Option Addr) (m c : Nat) (b : List UInt8) (w : World) (h : Rd w A m c b) (hm : m ≤ 65536) :
    Calls Try.prog 52 #[.int .i64 tag, .slice A m c] w fun e w' => ∃ A1 n1 c1, e = .returned (.slice A1 n1 c1) ∧ Own w' w.heap.size (.slice A1 n1 c1) (hdr tag b) ∧ Below w.heap.size w w' := by
  obtain ⟨X, hX⟩ : ∃ X, w.heap.size = X := ⟨_, rfl⟩
  have hbm : b.length = m := by have := h.1; omega
  have h2 : ∀ w', Below X w w' → Rd w' A m c b := fun w' hb => h.below (by rw [hX]; exact hb)
  obtain ⟨w1, hw1⟩ : ∃ w1, w.alloc (.cells #[.int .u8 (tag % 256)] 5) = w1 := ⟨_, rfl⟩
  have b1 : Blk w1 X 5 #[B (byteI tag)] := by rw [B_byteI, ← hw1, ← hX]; exact Blk.new _ _ _
  have hb1 : Below w.heap.size w w1 := by rw [← hw1]; exact (Below.refl _ _).alloc (Nat.le_refl _) _
  have hs1 : w1.heap.size = X + 1 := by rw [← hw1, ← hX]; simp
  have hO1 := Own.one (base := X) b1 (Nat.le_refl _)
  have hR1 := h.below hb1
  rw [hX] at hb1
  have HA := Lib.hid (And.intro hO1 (And.intro hR1 (And.intro hb1 hs1)))
  clear h hO1 hR1 hb1 hs1 b1
  have hm0 : (m : Int) ≤ 65536 := by omega
  go_enter Try.func52, Try.ntmps52
  by_cases h128 : m < 128
  · have t1 : (m : Int) < 128 := by omega
    have t1d : decide ((m : Int) < 128) = true := decide_eq_true t1
    have hBm := B_small (n := m) (by omega)
    have hmm : (m : Int) % 256 = m := by omega
    have hm8 : (m : Int) < 256 := by omega
    have hcs : (#[.int .u8 (m : Int)] : Array Value) = ([UInt8.ofNat m].map B).toArray := by rw [List.map_cons, hBm]; rfl
    have hlen : hdr tag b = [byteI tag] ++ [UInt8.ofNat m] ++ b := by unfold hdr lenB; rw [hbm, if_pos h128]; rfl
    have hrl : ∀ w' : World, w'.heap.size = X + 1 → Rd (w'.alloc (.cells #[.int .u8 (m : Int)] 5)) (some ⟨X + 1, 0, none⟩) 1 1 [UInt8.ofNat m] := fun w' hs => by have := rd_lit (w := w') (l2 := [UInt8.ofNat m]) (n := 1) hcs rfl (by omega); rwa [hs] at this
    have HL := Lib.hid (And.intro hrl hlen)
    clear hcs hrl hlen hBm
    subst hw1
    go_wp2_with (at_builtin; first | (refine wp_app2 (.tmp 16) (.tmp 19) X (.slice (some ⟨X, 0, none⟩) 1 1) [byteI tag] (HA.out.1.alloc_ _) (by have := HA.out.2.2.2; simp at this ⊢; omega) (some ⟨X + 1, 0, none⟩) 1 1 [UInt8.ofNat m] (HL.out.1 _ HA.out.2.2.2) (by simp) rfl rfl rfl rfl ?_; intro A4 n4 c4 w4 hi4 hG; have H4 := Lib.hid (And.intro hG (((HA.out.2.2.1.alloc (by have := HA.out.2.2.2; omega) _).trans hG.below))); clear hG) | (refine wp_app2 (.tmp 43) (.tmp 44) X (.slice A4 n4 c4) _ H4.out.1.own (by have := H4.out.2.size; have := HA.out.2.2.2; omega) A m c b (h2 _ H4.out.2) (by simp; omega) rfl rfl rfl rfl ?_; intro A6 n6 c6 w6 hi6 hG; have H6 := Lib.hid (And.intro hG (H4.out.2.trans hG.below)); clear hG))
    go_ret
    exact ⟨A6, n6, c6, rfl, by rw [HL.out.2, hX]; exact H6.out.1.own, by rw [hX]; exact H6.out.2⟩
  · have t1 : ¬ (m : Int) < 128 := by omega
    have t1d : decide ((m : Int) < 128) = false := decide_eq_false t1
    obtain ⟨x, hx⟩ : ∃ x, UInt64.ofNat m = x := ⟨_, rfl⟩
    have hxm : x.toNat = m := by rw [← hx, UInt64.toNat_ofNat']; exact Nat.mod_eq_of_lt (by omega)
    have hx0 : x ≠ 0 := fun e => by rw [e] at hxm; simp at hxm; omega
    have htx := trim_one hx0
    have hvx : valL [x] = m := by simp [valL, hxm]
    have hof := fun w' => of_any x w'
    rw [htx] at hof
    rw [hxm] at hof
    have hlenB : hdr tag b = [byteI tag] ++ [UInt8.ofNat (128 + (beMin m).length)] ++ beMin m ++ b := by unfold hdr; rw [hbm, lenB_big h128]; simp
    have hbml := beMin_len_le (n := m) (k := 3) (by omega)
    obtain ⟨ML, hML⟩ : ∃ ML, (beMin m).length = ML := ⟨_, rfl⟩
    rw [hML] at hlenB hbml
    have hblm := bl_le (n := m) (k := 17) (by omega)
    have hbb := beN_min m
    have hbl8 : bl m ≤ 8 * ((bl m + 7) / 8) := by omega
    have hBL := B_small (n := 128 + ML) (by omega)
    have hcs : (#[.int .u8 (128 + (ML : Int))] : Array Value) = ([UInt8.ofNat (128 + ML)].map B).toArray := by rw [List.map_cons, hBL]; simp
    have hrl : ∀ w' : World, Rd (w'.alloc (.cells #[.int .u8 (128 + (ML : Int))] 5)) (some ⟨w'.heap.size, 0, none⟩) 1 1 [UInt8.ofNat (128 + ML)] := fun w' => rd_lit (w := w') (l2 := [UInt8.ofNat (128 + ML)]) (n := 1) hcs rfl (by omega)
    obtain ⟨BM, hBM⟩ : ∃ BM, bl m = BM := ⟨_, rfl⟩
    rw [hBM] at hblm hbb hbl8
    have hq : ((BM : Int) + 7).tdiv 8 = (((BM + 7) / 8 : Nat) : Int) := by rw [Int.tdiv_eq_ediv_of_nonneg (by omega)]; omega
    obtain ⟨QN, hQN⟩ : ∃ QN, (BM + 7) / 8 = QN := ⟨_, rfl⟩
    rw [hQN] at hq hbb hbl8
    have hQNb : QN ≤ 3 := by omega
    have HL := Lib.hid (And.intro hrl (And.intro hlenB (And.intro hbb (And.intro hML (And.intro hvx hBM)))))
    clear hcs hrl hlenB hBL htx hx0 hx hbb hML hvx hBM hQN
    go_wp2_with fail
    try rw [hw1]
    try rw [hX]
    refine (hof _).mono ?_
    rintro e wa ⟨Aa, na, ca, rfl, hoa, hba⟩
    have Ha := Lib.hid (And.intro hoa (And.intro (HA.out.2.2.1.trans (hba.mono (by have := HA.out.2.2.2; omega))) (HA.out.1.below hba)))
    clear hoa hba
    go_wp2_with fail
    refine (hof _).mono ?_
    rintro e wb ⟨Ab, nb, cb, rfl, hob, hbb'⟩
    have Hb := Lib.hid (And.intro hob (And.intro (Ha.out.1.below hbb') (And.intro (Ha.out.2.1.trans (hbb'.mono (by have := Ha.out.2.1.size; omega))) (Ha.out.2.2.below hbb'))))
    clear hob hbb'
    have hmx1 := Ha.out.1.max
    have hmx2 := Hb.out.1.max
    have hmx3 := Hb.out.2.1.len
    have hmx4 := Hb.out.1.len
    simp only [List.length_singleton] at hmx3 hmx4
    have hbi := bits_any Ab nb cb [x] wb Hb.out.1.rd ⟨hmx2.2.1, hmx2.2.2⟩ (Hb.out.1.nilc) (by omega)
    rw [HL.out.2.2.2.2.1, HL.out.2.2.2.2.2] at hbi
    have hby := bytes_any Aa na ca [x] QN wb Hb.out.2.1.rd ⟨hmx1.2.1, hmx1.2.2⟩ (Hb.out.2.1.nilc) (by omega) (by omega) (by rw [HL.out.2.2.2.2.1, HL.out.2.2.2.2.2]; exact hbl8)
    rw [HL.out.2.2.2.2.1, HL.out.2.2.1] at hby
    have HY := Lib.hid hby
    clear hby hmx1 hmx2 hmx3 hmx4
    go_wp2_with fail
    refine hbi.mono ?_
    rintro e wc ⟨rfl, rfl⟩
    clear hbi
    go_wp2_with fail
    refine HY.out.mono ?_
    rintro e wd ⟨Ad, nd, cd, rfl, hod, hbd⟩
    have hnd := hod.len
    rw [HL.out.2.2.2.1] at hnd
    have Hd := Lib.hid (And.intro hod (And.intro (Hb.out.2.2.1.trans (hbd.mono (by have := Hb.out.2.2.1.size; omega))) (Hb.out.2.2.2.below hbd)))
    clear hod hbd
    subst hnd
    go_wp2_with (at_builtin; first | ((refine wp_app2 (.tmp 34) (.tmp 39) X (.slice (some ⟨X, 0, none⟩) 1 1) [byteI tag] (Hd.out.2.2.alloc_ _) (by have := Hd.out.2.1.size; simp; omega) (some ⟨wd.heap.size, 0, none⟩) 1 1 [UInt8.ofNat (128 + nd)] (HL.out.1 _) (by simp) rfl rfl rfl rfl ?_; intro A4 n4 c4 w4 hi4 hG; have H4 := Lib.hid (And.intro hG (And.intro ((Hd.out.2.1.alloc (by have := Hd.out.2.1.size; omega) _).trans hG.below) ((Hd.out.1.alloc_ _).keep (fun g hg => hG.grown.block g (by have := (Hd.out.1.lt hg).2; simp; omega) (fun e => by have h1 := (Hd.out.1.lt hg).1; have h2 := (Hb.out.2.2.2.lt (g := X) rfl).2; injection e with e; simp only at e; omega))).rd)); clear hG)) | (refine wp_app2 (.tmp 40) (.tmp 41) X (.slice A4 n4 c4) _ H4.out.1.own (by have := H4.out.2.1.size; omega) Ad nd cd _ H4.out.2.2 (by simp; have := HL.out.2.2.2.1; omega) rfl rfl rfl rfl ?_; intro A5 n5 c5 w5 hi5 hG; have H5 := Lib.hid (And.intro hG (H4.out.2.1.trans hG.below)); clear hG) | (refine wp_app2 (.tmp 43) (.tmp 44) X (.slice A5 n5 c5) _ H5.out.1.own (by have := H5.out.2.size; have := HA.out.2.2.2; omega) A m c b (h2 _ H5.out.2) (by simp; have := HL.out.2.2.2.1; omega) rfl rfl rfl rfl ?_; intro A6 n6 c6 w6 hi6 hG; have H6 := Lib.hid (And.intro hG (H5.out.2.trans hG.below)); clear hG))
    go_ret
    exact ⟨A6, n6, c6, rfl, by rw [HL.out.2.1, hX]; exact H6.out.1.own, by rw [hX]; exact H6.out.2⟩
end Go.Proofs.Ytgkhhinjdojbhaa
