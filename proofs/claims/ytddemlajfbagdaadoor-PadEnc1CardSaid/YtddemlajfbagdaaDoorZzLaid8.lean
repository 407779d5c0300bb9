/-
  Pad: begun: one encoding is told.
  Pad: the laws PadInfo and PadDec1.
  Pad: the law PadEnc1.
  The tables that the rows of pad list; a world that holds them.
-/
import Derived.Test.YtddemlajfbagdaaDoorZzPb0
import Derived.Lib.SlBytesConst
import Derived.Test.YtddemlajfbagdaaDoorZzPd3
import Derived.Test.YtddemlajfbagdaaDoorP256
import Derived.Lay
namespace Go.Proofs.YtddemlajfbagdaaDoor
set_option maxRecDepth 100000
open Go.RowKit

set_option maxHeartbeats 16000000 in
theorem padbegun_any (w : World) (hK : KAt w) : Calls Tryd.prog 9 #[] w fun e w' => e = .returned (.bool true) ∧ Old w w' := by
  have hmk : ∀ w : World, (Instr.makeSlice 22 (.int .i64 20) (.int .i64 20)).run Tryd.prog w = .ok (.slice (some ⟨w.heap.size, 0, none⟩) 20 20) (w.alloc (.cells (madeCells #[.int .u8 0] 20) 5)) := Tryd.prog_make 20 (by omega)
  have kc := fun (w : World) (C : Array Value) (n c : Nat) => Lib.run_convert_bytes_const (P := Tryd.prog) w 22 5 C n c Tryd.underlying22 Tryd.underlying5
  have hz : ∀ W : World, Rd (W.alloc (.cells (madeCells #[.int .u8 0] 20) 5)) (some ⟨W.heap.size, 0, none⟩) 20 20 (zs 20) := fun W => (Own.made W 20 (by decide)).rd
  obtain ⟨S1, hS1, hS1l⟩ : ∃ S, sign1F 20 [97, 98, 99] = (S, 0) ∧ S.length = 20 := ⟨_, rfl, rfl⟩
  obtain ⟨I1, hI1, hI1l⟩ : ∃ S, infoF 1 (zs 20) = (S, true) ∧ S.length = 35 := ⟨_, rfl, rfl⟩
  have hE0 : (encOF 1 60 [] (zs 20) [109]).2 = 0 := rfl
  obtain ⟨hD, _⟩ := encOF_back 1 60 [] (zs 20) [109] (by decide) hE0
  obtain ⟨E1, hE1⟩ : ∃ S, encOF 1 60 [] (zs 20) [109] = (S, 0) := ⟨_, Prod.ext rfl hE0⟩
  rw [hE1] at hD
  have hP0 : (encPF 1 400 (zs 20) []).2 = 0 := rfl
  have hV := (encPF_ver 1 400 (zs 20) [] hP0).1
  have hP8 := (encPF_ver 1 400 (zs 20) [] hP0).2.2
  obtain ⟨P1, hP1⟩ : ∃ S, encPF 1 400 (zs 20) [] = (S, 0) := ⟨_, Prod.ext rfl hP0⟩
  rw [hP1] at hV hP8
  rw [show (([] : List UInt8).length : Int) = 0 from rfl] at hV
  have hc1 := fun W hr => sign1_any 20 (some ⟨w.heap.size, 0, none⟩) 3 3 [97, 98, 99] W hr (by decide) (by decide) (by decide)
  rw [hS1] at hc1
  have hc2 := fun W A m c hr => info_any 1 A m c (zs 20) W hr
  rw [hI1] at hc2
  have hc3 := fun W A2 m2 c2 A3 m3 c3 hr2 hr3 hK hm2 hm3 => enco_any 1 60 none A2 A3 0 0 m2 c2 m3 c3 [] (zs 20) [109] W (Rd.nil _) hr2 hr3 hK (by decide) (by decide) (by decide) hm2 hm3
  rw [hE1] at hc3
  have hc4 := fun W A3 m3 c3 hr3 hK hm3 => deco_any 1 none A3 0 0 m3 c3 [] E1 W (Rd.nil _) hr3 hK (by decide) hm3
  dsimp only at hD
  rw [hD] at hc4
  have hc5 := fun W A1 m1 c1 hr1 hK => encp_any 1 400 A1 none m1 c1 0 0 (zs 20) [] W hr1 (Rd.nil _) hK (by decide) (by decide)
  rw [hP1] at hc5
  have hc6 := fun W A1 m1 c1 A3 m3 c3 hr1 hr3 hK => verp_any 1 400 0 A1 A3 m1 c1 m3 c3 (zs 20) P1 W hr1 hr3 hK (by decide)
  have hE1l : E1.length = 60 := by have := (encOF_back 1 60 [] (zs 20) [109] (by decide) hE0).2; rw [hE1] at this; exact this
  have HH := Lib.hid (And.intro hK (And.intro hz (And.intro hc1 (And.intro hc2 (And.intro hc3 (And.intro hc4 (And.intro hc5 (And.intro hc6 (And.intro hV (And.intro hS1l (And.intro hI1l (And.intro hE1l hP8))))))))))))
  clear hK hz hc1 hc2 hc3 hc4 hc5 hc6 hV hS1 hS1l hI1 hI1l hE0 hE1 hE1l hD hP0 hP1 hP8
  obtain ⟨w0, hw0⟩ : ∃ w0, w.alloc (.cells #[.int .u8 97, .int .u8 98, .int .u8 99] 5 (3, 4)) = w0 := ⟨_, rfl⟩
  have hB0 : Old w w0 := by rw [← hw0]; exact (Old.refl w).alloc _
  have hR0 : Rd w0 (some ⟨w.heap.size, 0, none⟩) 3 3 [97, 98, 99] := by rw [← hw0]; exact Rd.of_blk (l := [97, 98, 99]) (fr := (3, 4)) (heap_alloc_new w _) (by decide)
  have H0 := Lib.hid (And.intro hR0 hB0)
  clear hR0 hB0
  go_enter Tryd.func9, Tryd.ntmps9
  go_wp2_with fail
  refine (HH.out.2.2.1 w0 H0.out.1).mono ?_
  rintro e w1 ⟨A1, n1, c1, rfl, hR1, hB1⟩
  have hn1 := hR1.1
  rw [HH.out.2.2.2.2.2.2.2.2.2.1] at hn1
  subst hn1
  have H1 := Lib.hid (Old.trans H0.out.2 hB1)
  clear hR1 hB1 hw0
  obtain ⟨w2, hw2⟩ : ∃ w2, w1.alloc (.cells (madeCells #[.int .u8 0] 20) 5) = w2 := ⟨_, rfl⟩
  have hR2 : Rd w2 (some ⟨w1.heap.size, 0, none⟩) 20 20 (zs 20) := by rw [← hw2]; exact HH.out.2.1 w1
  have hB2 : Old w w2 := by rw [← hw2]; exact H1.out.alloc _
  have H2 := Lib.hid (And.intro hR2 hB2)
  clear hR2 hB2
  go_wp2_with fail
  refine (HH.out.2.2.2.1 w2 _ _ _ H2.out.1).mono ?_
  rintro e w3 ⟨A3, n3, c3, rfl, hR3, hB3⟩
  have hn3 := hR3.1
  rw [HH.out.2.2.2.2.2.2.2.2.2.2.1] at hn3
  subst hn3
  have H3 := Lib.hid (Old.trans H2.out.2 hB3)
  clear hR3 hB3 hw2
  obtain ⟨w4, hw4⟩ : ∃ w4, (w3.alloc (.cells (madeCells #[.int .u8 0] 20) 5)).alloc (.cells #[.int .u8 109] 5 (1, 2)) = w4 := ⟨_, rfl⟩
  have hR4 : Rd w4 (some ⟨w3.heap.size, 0, none⟩) 20 20 (zs 20) := by rw [← hw4]; exact (HH.out.2.1 w3).below ((Old.refl _).alloc _)
  have hR4b : Rd w4 (some ⟨w3.heap.size + 1, 0, none⟩) 1 1 [109] := by
    rw [← hw4]
    have := Rd.of_blk (l := [109]) (fr := (1, 2)) (heap_alloc_new (w3.alloc (.cells (madeCells #[.int .u8 0] 20) 5)) (.cells #[.int .u8 109] 5 (1, 2))) (by decide)
    rwa [World.size_alloc] at this
  have hB4 : Old w w4 := by rw [← hw4]; exact (H3.out.alloc _).alloc _
  have kc4 := kc (w3.alloc (.cells (madeCells #[.int .u8 0] 20) 5)) #[.int .u8 109] 1 1
  rw [World.size_alloc] at kc4
  have H4 := Lib.hid (And.intro hR4 (And.intro hR4b hB4))
  clear hR4 hR4b hB4
  go_wp2_with fail
  refine (HH.out.2.2.2.2.1 w4 _ _ _ _ _ _ H4.out.1 H4.out.2.1 (HH.out.1.below H4.out.2.2) (by decide) (by decide)).mono ?_
  rintro e w5 ⟨A5, n5, c5, rfl, hR5, hB5⟩
  have hn5 := hR5.1
  rw [HH.out.2.2.2.2.2.2.2.2.2.2.2.1] at hn5
  have H5 := Lib.hid (And.intro hR5 (And.intro (Old.trans H4.out.2.2 hB5) hn5))
  clear hR5 hB5 hw4 hn5
  go_wp2_with fail
  refine (HH.out.2.2.2.2.2.1 w5 _ _ _ H5.out.1 (HH.out.1.below H5.out.2.1) (by have := H5.out.2.2; omega)).mono ?_
  rintro e w6 ⟨A6, n6, c6, rfl, hR6, hB6⟩
  have H6 := Lib.hid (And.intro hR6 (Old.trans H5.out.2.1 hB6))
  clear hR6 hB6
  obtain ⟨w7, hw7⟩ : ∃ w7, w6.alloc (.cells (madeCells #[.int .u8 0] 20) 5) = w7 := ⟨_, rfl⟩
  have hR7 : Rd w7 (some ⟨w6.heap.size, 0, none⟩) 20 20 (zs 20) := by rw [← hw7]; exact HH.out.2.1 w6
  have hB7 : Old w w7 := by rw [← hw7]; exact H6.out.2.alloc _
  have hB67 : Old w6 w7 := by rw [← hw7]; exact (Old.refl _).alloc _
  have H7 := Lib.hid (And.intro hR7 (And.intro hB7 hB67))
  clear hR7 hB7 hB67
  go_wp2_with fail
  refine (HH.out.2.2.2.2.2.2.1 w7 _ _ _ H7.out.1 (HH.out.1.below H7.out.2.1)).mono ?_
  rintro e w8 ⟨A8, n8, c8, rfl, hR8, hB8⟩
  have hs6 := (H6.out.1.below (Old.trans H7.out.2.2 hB8)).str
  have H8 := Lib.hid (And.intro hR8 (Old.trans H7.out.2.1 hB8))
  clear hR8 hB8 hw7
  obtain ⟨w9, hw9⟩ : ∃ w9, w8.alloc (.cells (madeCells #[.int .u8 0] 20) 5) = w9 := ⟨_, rfl⟩
  have hR9 : Rd w9 (some ⟨w8.heap.size, 0, none⟩) 20 20 (zs 20) := by rw [← hw9]; exact HH.out.2.1 w8
  have hB89 : Old w8 w9 := by rw [← hw9]; exact (Old.refl _).alloc _
  have H9 := Lib.hid (And.intro hR9 (And.intro (Old.trans H8.out.2 hB89) hB89))
  clear hR9 hB89
  go_wp2_with fail
  refine (HH.out.2.2.2.2.2.2.2.1 w9 _ _ _ _ _ _ H9.out.1 (H8.out.1.below H9.out.2.2) (HH.out.1.below H9.out.2.1)).mono ?_
  rintro e w10 ⟨r, rfl, hr, hB10⟩
  have hrt : r = true := hr.2 HH.out.2.2.2.2.2.2.2.2.1
  subst hrt
  have H10 := Lib.hid (Old.trans H9.out.2.1 hB10)
  clear hr hB10 hw9
  go_wp2_with fail
  go_ret
  exact ⟨rfl, H10.out⟩
end Go.Proofs.YtddemlajfbagdaaDoor
namespace Go.Proofs.YtddemlajfbagdaaDoor
set_option maxRecDepth 100000
open Go.RowKit

def sizeF (n : Int) : Int := if 200 < n ∧ n ≤ 65536 then n % 201 else n
theorem sizeF_in (n : Int) : sizeF n ≤ 200 ∨ 65536 < sizeF n := by unfold sizeF; split <;> omega
theorem sizeF_lo (n : Int) (h : -9223372036854775808 ≤ n) : -9223372036854775808 ≤ sizeF n := by unfold sizeF; split <;> omega
set_option maxHeartbeats 2000000 in
theorem size8_any (n : Int) (w : World) : Calls Tryd.prog 10 #[.int .i64 n] w fun e w' => e = .returned (.int .i64 (sizeF n)) ∧ w = w' := by
  unfold sizeF
  by_cases h1 : 200 < n
  · have b1 : decide (n > 200) = true := decide_eq_true h1
    have c1 : n > 200 := h1
    by_cases h2 : n ≤ 65536
    · rw [if_pos ⟨h1, h2⟩]
      have b2 : decide (n ≤ 65536) = true := decide_eq_true h2
      have hm : Int.tmod n 201 = n % 201 := Int.tmod_eq_emod_of_nonneg (by omega)
      have hw : IntKind.i64.wrap (n % 201) = n % 201 := IntWalk.i64_in _ (by omega)
      go_enter Tryd.func10, Tryd.ntmps10
      go_wp2_with fail
      go_ret
      exact ⟨rfl, rfl⟩
    · rw [if_neg (fun h => h2 h.2)]
      have b2 : decide (n ≤ 65536) = false := decide_eq_false h2
      go_enter Tryd.func10, Tryd.ntmps10
      go_wp2_with fail
      go_ret
      exact ⟨rfl, rfl⟩
  · rw [if_neg (fun h => h1 h.1)]
    have b1 : decide (n > 200) = false := decide_eq_false h1
    have c1 : ¬ n > 200 := h1
    go_enter Tryd.func10, Tryd.ntmps10
    go_wp2_with fail
    go_ret
    exact ⟨rfl, rfl⟩
set_option maxHeartbeats 8000000 in
theorem padInfo_any (kind n : Int) (A : Option Addr) (m c : Nat) (t : List UInt8) (w : World) (hr : Rd w A m c t) (hK : KAt w) (hn : -9223372036854775808 ≤ n) :
    Calls Tryd.prog 3 #[.int .i64 kind, .int .i64 n, .slice A m c] w (LawRes w) := by
  have HS := Lib.hid (fun w' hw => short_any A m c 220 t w' (hr.below (w' := w') hw) (by omega))
  have hs := hr.short (n := 220)
  have hm : min m 220 ≤ 220 := Nat.min_le_right _ _
  generalize min m 220 = m2 at *
  generalize t.take 220 = t2 at *
  have hsz := size8_any n
  have h1 := sizeF_in n
  have h2 := sizeF_lo n hn
  generalize sizeF n = n2 at *
  have hf1 := fun W hr => info_any kind A m2 c t2 W hr
  have hf2 := fun W hr => rinfo_any kind A m2 c t2 W hr
  have hf3 := fun W hr => sign1_any n2 A m2 c t2 W hr h1 h2 (by omega)
  have hf4 := fun W hr => rsign1_any n2 A m2 c t2 W hr h1 h2 (by omega)
  obtain ⟨l1, b1, hI⟩ : ∃ l b, infoF kind t2 = (l, b) := ⟨_, _, rfl⟩
  obtain ⟨l2, r2, hS⟩ : ∃ l b, sign1F n2 t2 = (l, b) := ⟨_, _, rfl⟩
  rw [hI] at hf1 hf2
  rw [hS] at hf3 hf4
  have hbe := padbegun_any w hK
  have HH := Lib.hid (And.intro hbe (And.intro hsz (And.intro hs (And.intro hf1 (And.intro hf2 (And.intro hf3 hf4))))))
  clear hbe hsz hs hf1 hf2 hf3 hf4 hI hS hr hK hn h1 h2 hm
  go_enter Tryd.func3, Tryd.ntmps3
  go_wp2_with fail
  refine HH.out.1.mono ?_
  rintro e w1 ⟨rfl, hB1⟩
  have H1 := Lib.hid hB1
  clear hB1
  go_wp2_with fail
  refine (HH.out.2.1 w1).mono ?_
  rintro e w' ⟨rfl, rfl⟩
  go_wp2_with fail
  refine (HS.out _ H1.out).mono ?_
  rintro e w' ⟨rfl, rfl⟩
  go_wp2_with fail
  refine (HH.out.2.2.2.1 _ (HH.out.2.2.1.below H1.out)).mono ?_
  rintro e w2 ⟨A2, m3, c2, rfl, hR2, hB2⟩
  have H2 := Lib.hid (And.intro hR2 (Old.trans H1.out hB2))
  clear hR2 hB2
  go_wp2_with fail
  refine (HH.out.2.2.2.2.1 _ (HH.out.2.2.1.below H2.out.2)).mono ?_
  rintro e w3 ⟨A3, m4, c3, rfl, hR3, hB3⟩
  have H3 := Lib.hid (And.intro (H2.out.1.below hB3) (And.intro hR3 (Old.trans H2.out.2 hB3)))
  clear hR3 hB3
  go_wp2_with fail
  refine (HH.out.2.2.2.2.2.1 _ (HH.out.2.2.1.below H3.out.2.2)).mono ?_
  rintro e w4 ⟨A4, m5, c4, rfl, hR4, hB4⟩
  have H4 := Lib.hid (And.intro (H3.out.1.below hB4) (And.intro (H3.out.2.1.below hB4) (And.intro hR4 (Old.trans H3.out.2.2 hB4))))
  clear hR4 hB4
  go_wp2_with fail
  refine (HH.out.2.2.2.2.2.2 _ (HH.out.2.2.1.below H4.out.2.2.2)).mono ?_
  rintro e w5 ⟨A5, m6, c5, rfl, hR5, hB5⟩
  have s1 := (H4.out.1.below hB5).str
  have s2 := (H4.out.2.1.below hB5).str
  have s3 := (H4.out.2.2.1.below hB5).str
  have s4 := hR5.str
  have H5 := Lib.hid (Old.trans H4.out.2.2.2 hB5)
  clear hR5 hB5
  go_wp2_with fail
  go_ret
  exact ⟨rfl, H5.out⟩
set_option maxHeartbeats 8000000 in
theorem padDec1_any (A : Option Addr) (m c : Nat) (t : List UInt8) (w : World) (hr : Rd w A m c t) (hK : KAt w) :
    Calls Tryd.prog 7 #[.slice A m c] w (LawRes w) := by
  have HS := Lib.hid (fun w' hw => short_any A m c 200 t w' (hr.below (w' := w') hw) (by omega))
  have hs := hr.short (n := 200)
  have hm : min m 200 ≤ 200 := Nat.min_le_right _ _
  generalize min m 200 = m2 at *
  generalize t.take 200 = t2 at *
  have hf1 := fun W hr => dec1_any A m2 c t2 W hr (by omega)
  have hf2 := fun W hr => rdec1_any A m2 c t2 W hr (by omega)
  obtain ⟨l1, b1, hI⟩ : ∃ l b, dec1F t2 = (l, b) := ⟨_, _, rfl⟩
  rw [hI] at hf1 hf2
  have hbe := padbegun_any w hK
  have HH := Lib.hid (And.intro hbe (And.intro hs (And.intro hf1 hf2)))
  clear hbe hs hf1 hf2 hI hr hK hm
  go_enter Tryd.func7, Tryd.ntmps7
  go_wp2_with fail
  refine HH.out.1.mono ?_
  rintro e w1 ⟨rfl, hB1⟩
  have H1 := Lib.hid hB1
  clear hB1
  go_wp2_with fail
  refine (HS.out _ H1.out).mono ?_
  rintro e w' ⟨rfl, rfl⟩
  go_wp2_with fail
  refine (HH.out.2.2.1 _ (HH.out.2.1.below H1.out)).mono ?_
  rintro e w2 ⟨A2, m3, c2, rfl, hR2, hB2⟩
  have H2 := Lib.hid (And.intro hR2 (Old.trans H1.out hB2))
  clear hR2 hB2
  go_wp2_with fail
  refine (HH.out.2.2.2 _ (HH.out.2.1.below H2.out.2)).mono ?_
  rintro e w3 ⟨A3, m4, c3, rfl, hR3, hB3⟩
  have s1 := (H2.out.1.below hB3).str
  have s2 := hR3.str
  have H3 := Lib.hid (Old.trans H2.out.2 hB3)
  clear hR3 hB3
  go_wp2_with fail
  go_ret
  exact ⟨rfl, H3.out⟩
end Go.Proofs.YtddemlajfbagdaaDoor
namespace Go.Proofs.YtddemlajfbagdaaDoor
set_option maxRecDepth 100000
open Go.RowKit

theorem enc1F_len (n : Int) (m r : List UInt8) (hn : n ≤ 200 ∨ 65536 < n) (h : (enc1F n m r).2.1 = 0) : (enc1F n m r).1.length ≤ 1000 := by
  unfold enc1F at h ⊢
  split at h
  · cases h
  · rename_i h1
    rw [if_neg h1]
    split at h
    · cases h
    · rename_i h2
      rw [if_neg h2]
      split at h
      · cases h
      · rename_i h3
        rw [if_neg h3]
        have := (nzT_le (n.toNat - 3 - m.length) r).1
        simp only [List.length_append, List.length_cons, List.length_nil]
        omega
set_option maxHeartbeats 8000000 in
theorem padEnc1_any (n : Int) (A1 A2 : Option Addr) (m1 c1 m2 c2 : Nat) (msg rnd : List UInt8) (w : World) (h1 : Rd w A1 m1 c1 msg) (h2 : Rd w A2 m2 c2 rnd) (hK : KAt w) (hn : -9223372036854775808 ≤ n) :
    Calls Tryd.prog 8 #[.int .i64 n, .slice A1 m1 c1, .slice A2 m2 c2] w (LawRes w) := by
  have HS := Lib.hid (And.intro (fun w' hw => short_any A1 m1 c1 220 msg w' (h1.below (w' := w') hw) (by omega)) (fun w' hw => short_any A2 m2 c2 300 rnd w' (h2.below (w' := w') hw) (by omega)))
  replace h1 := h1.short (n := 220)
  replace h2 := h2.short (n := 300)
  have g1 : min m1 220 ≤ 220 := Nat.min_le_right _ _
  have g2 : min m2 300 ≤ 300 := Nat.min_le_right _ _
  generalize min m1 220 = p1 at *
  generalize min m2 300 = p2 at *
  generalize msg.take 220 = mm at *
  generalize rnd.take 300 = rr at *
  have HR := Lib.hid (And.intro h1 (And.intro h2 (And.intro (fun ad ha => h1.lt ad ha) (fun ad ha => h2.lt ad ha))))
  have hsz := size8_any n
  have d1 := sizeF_in n
  have d2 := sizeF_lo n hn
  generalize sizeF n = n2 at *
  have hf1 := fun W bx bp cnt (hw : Old w W) (hG : G8 bx bp cnt A2 p2 c2 rr 0 W) hf => enc1_any n2 A1 A2 bx bp cnt p1 c1 p2 c2 mm rr W (h1.below hw) hG hf d1 d2 (by omega) (by omega)
  have hf2 := fun W (hw : Old w W) => renc1_any n2 A1 A2 p1 c1 p2 c2 mm rr W (h1.below hw) (h2.below hw) d1 d2 (by omega) (by omega)
  have hf3 := fun W => enc1_nil n2 (.slice A1 p1 c1) W
  have hl := enc1F_len n2 mm rr d1
  have hb := dec1_enc1 n2 mm rr
  have hs1 := fun W (hw : Old w W) => (h1.below hw).str
  have hbe := padbegun_any w hK
  obtain ⟨l1, v1, k1, hE⟩ : ∃ l b k, enc1F n2 mm rr = (l, b, k) := ⟨_, _, _, rfl⟩
  rw [hE] at hf1 hf2 hl hb
  dsimp only at hl hb
  by_cases e0 : v1 = 0
  · subst e0
    have hl1 := hl rfl
    have hb1 := hb rfl
    have hf5 := fun W A (c : Nat) (hr : Rd W A l1.length c l1) => dec1_any A l1.length c l1 W hr (by omega)
    rw [hb1] at hf5
    have HH := Lib.hid (And.intro hbe (And.intro hsz (And.intro hf1 (And.intro hf2 (And.intro hf3 (And.intro hf5 hs1))))))
    clear hbe hsz hf1 hf2 hf3 hf5 hs1 hl hb hl1 hb1 hE h1 h2 hK hn d1 d2 g1 g2
    go_enter Tryd.func8, Tryd.ntmps8
    go_wp2_with fail
    refine HH.out.1.mono ?_
    rintro e w1 ⟨rfl, hB1⟩
    have H1 := Lib.hid hB1
    clear hB1
    go_wp2_with fail
    refine (HH.out.2.1 w1).mono ?_
    rintro e w' ⟨rfl, rfl⟩
    go_wp2_with fail
    refine (HS.out.1 _ H1.out).mono ?_
    rintro e w' ⟨rfl, rfl⟩
    go_wp2_with fail
    refine (HS.out.2 _ H1.out).mono ?_
    rintro e w' ⟨rfl, rfl⟩
    go_wp2_with fail
    obtain ⟨cnt, hcnt⟩ : ∃ c, w1.heap.size = c := ⟨_, rfl⟩
    obtain ⟨w2, hw2⟩ : ∃ w2, w1.alloc (.cells #[.int .i64 0] 3) = w2 := ⟨_, rfl⟩
    have hb3 : Blk w2 cnt 3 #[.int .i64 0] := by rw [← hw2, ← hcnt]; exact Blk.new _ _ _
    have hB2 : Old w w2 := by rw [← hw2]; exact H1.out.alloc _
    have hz2 : w2.heap.size = cnt + 1 := by rw [← hw2, World.size_alloc, hcnt]
    have H2 := Lib.hid (And.intro hb3 (And.intro hB2 (And.intro hz2 (show w.heap.size ≤ cnt by rw [← hcnt]; exact H1.out.size))))
    clear hb3 hB2 hz2
    rw [hw2, hcnt]
    refine (given8_any A2 p2 c2 cnt w2).mono ?_
    rintro e w3 ⟨rfl, hw3⟩
    clear hw2
    have hG3 : G8 w2.heap.size (w2.heap.size + 1) cnt A2 p2 c2 rr 0 w3 := by
      refine ⟨?_, ?_, ?_, ?_, ?_⟩
      · rw [← hw3]; exact (Blk.new w2 _ _).alloc _
      · rw [← hw3]
        have := Blk.new (w2.alloc (.cells #[.slice A2 p2 c2] 22)) 45 #[.pointer (some ⟨cnt, 0, none⟩)]
        rwa [World.size_alloc] at this
      · rw [← hw3]; exact (H2.out.1.alloc _).alloc _
      · exact HR.out.2.1.below (by rw [← hw3]; exact (H2.out.2.1.alloc _).alloc _)
      · intro ad ha
        have := HR.out.2.2.2 ad ha
        have := H2.out.2.2.2
        omega
    have hB3 : Old w w3 := by rw [← hw3]; exact (H2.out.2.1.alloc _).alloc _
    have H3 := Lib.hid (And.intro hG3 hB3)
    clear hG3 hB3 hw3
    go_wp2_with fail
    refine (HH.out.2.2.1 w3 _ _ _ H3.out.2 H3.out.1 (fun ad ha => by have := HR.out.2.2.1 ad ha; have := H2.out.2.2.2; omega)).mono ?_
    rintro e w4 ⟨A4, n4, c4, rfl, hR4, hG4, hT4⟩
    have hB4 : Old w w4 := below_turn H3.out.2 hT4 (fun z hz => by
      have h1 : z = cnt := by simpa using hz
      have h2 := H2.out.2.2.2
      omega) H3.out.2.size
    have H4 := Lib.hid (And.intro hR4 (And.intro hG4 hB4))
    clear hR4 hG4 hT4 hB4
    go_wp2_with fail
    refine (HH.out.2.2.2.1 w4 H4.out.2.2).mono ?_
    rintro e w5 ⟨A5, n5, c5, rfl, hR5, hB5⟩
    have s1 := (H4.out.1.below hB5).str
    have s2 := hR5.str
    have c3 := (H4.out.2.1.b3.below hB5).cell 0
    simp only [List.getElem?_toArray, List.getElem?_cons_zero] at c3
    have H5 := Lib.hid (And.intro (H4.out.1.below hB5) (Old.trans H4.out.2.2 hB5))
    clear hR5 hB5
    go_wp2_with fail
    refine (HH.out.2.2.2.2.1 w5).mono ?_
    rintro e w' ⟨rfl, rfl⟩
    go_wp2_with fail
    have hn4 := H5.out.1.1
    subst hn4
    refine (HH.out.2.2.2.2.2.1 _ _ _ H5.out.1).mono ?_
    rintro e w6 ⟨A6, n6, c6, rfl, hR6, hB6⟩
    have s5 := hR6.str
    have s6 := HH.out.2.2.2.2.2.2 _ (Old.trans H5.out.2 hB6)
    have H6 := Lib.hid (Old.trans H5.out.2 hB6)
    clear hR6 hB6
    go_wp2_with fail
    go_ret
    exact ⟨rfl, H6.out⟩
  · have b0 : (v1 != 0) = true := by simpa using e0
    have HH := Lib.hid (And.intro hbe (And.intro hsz (And.intro hf1 (And.intro hf2 (And.intro hf3 trivial)))))
    clear hbe hsz hf1 hf2 hf3 hs1 hl hb hE h1 h2 hK hn d1 d2 g1 g2 e0
    go_enter Tryd.func8, Tryd.ntmps8
    go_wp2_with fail
    refine HH.out.1.mono ?_
    rintro e w1 ⟨rfl, hB1⟩
    have H1 := Lib.hid hB1
    clear hB1
    go_wp2_with fail
    refine (HH.out.2.1 w1).mono ?_
    rintro e w' ⟨rfl, rfl⟩
    go_wp2_with fail
    refine (HS.out.1 _ H1.out).mono ?_
    rintro e w' ⟨rfl, rfl⟩
    go_wp2_with fail
    refine (HS.out.2 _ H1.out).mono ?_
    rintro e w' ⟨rfl, rfl⟩
    go_wp2_with fail
    obtain ⟨cnt, hcnt⟩ : ∃ c, w1.heap.size = c := ⟨_, rfl⟩
    obtain ⟨w2, hw2⟩ : ∃ w2, w1.alloc (.cells #[.int .i64 0] 3) = w2 := ⟨_, rfl⟩
    have hb3 : Blk w2 cnt 3 #[.int .i64 0] := by rw [← hw2, ← hcnt]; exact Blk.new _ _ _
    have hB2 : Old w w2 := by rw [← hw2]; exact H1.out.alloc _
    have hz2 : w2.heap.size = cnt + 1 := by rw [← hw2, World.size_alloc, hcnt]
    have H2 := Lib.hid (And.intro hb3 (And.intro hB2 (And.intro hz2 (show w.heap.size ≤ cnt by rw [← hcnt]; exact H1.out.size))))
    clear hb3 hB2 hz2
    rw [hw2, hcnt]
    refine (given8_any A2 p2 c2 cnt w2).mono ?_
    rintro e w3 ⟨rfl, hw3⟩
    clear hw2
    have hG3 : G8 w2.heap.size (w2.heap.size + 1) cnt A2 p2 c2 rr 0 w3 := by
      refine ⟨?_, ?_, ?_, ?_, ?_⟩
      · rw [← hw3]; exact (Blk.new w2 _ _).alloc _
      · rw [← hw3]
        have := Blk.new (w2.alloc (.cells #[.slice A2 p2 c2] 22)) 45 #[.pointer (some ⟨cnt, 0, none⟩)]
        rwa [World.size_alloc] at this
      · rw [← hw3]; exact (H2.out.1.alloc _).alloc _
      · exact HR.out.2.1.below (by rw [← hw3]; exact (H2.out.2.1.alloc _).alloc _)
      · intro ad ha
        have := HR.out.2.2.2 ad ha
        have := H2.out.2.2.2
        omega
    have hB3 : Old w w3 := by rw [← hw3]; exact (H2.out.2.1.alloc _).alloc _
    have H3 := Lib.hid (And.intro hG3 hB3)
    clear hG3 hB3 hw3
    go_wp2_with fail
    refine (HH.out.2.2.1 w3 _ _ _ H3.out.2 H3.out.1 (fun ad ha => by have := HR.out.2.2.1 ad ha; have := H2.out.2.2.2; omega)).mono ?_
    rintro e w4 ⟨A4, n4, c4, rfl, hR4, hG4, hT4⟩
    have hB4 : Old w w4 := below_turn H3.out.2 hT4 (fun z hz => by
      have h1 : z = cnt := by simpa using hz
      have h2 := H2.out.2.2.2
      omega) H3.out.2.size
    have H4 := Lib.hid (And.intro hR4 (And.intro hG4 hB4))
    clear hR4 hG4 hT4 hB4
    go_wp2_with fail
    refine (HH.out.2.2.2.1 w4 H4.out.2.2).mono ?_
    rintro e w5 ⟨A5, n5, c5, rfl, hR5, hB5⟩
    have s1 := (H4.out.1.below hB5).str
    have s2 := hR5.str
    have c3 := (H4.out.2.1.b3.below hB5).cell 0
    simp only [List.getElem?_toArray, List.getElem?_cons_zero] at c3
    have H5 := Lib.hid (And.intro (H4.out.1.below hB5) (Old.trans H4.out.2.2 hB5))
    clear hR5 hB5
    go_wp2_with fail
    refine (HH.out.2.2.2.2.1 w5).mono ?_
    rintro e w' ⟨rfl, rfl⟩
    go_wp2_with fail
    go_ret
    exact ⟨rfl, H5.out.2⟩
end Go.Proofs.YtddemlajfbagdaaDoor
namespace Go.Proofs.YtddemlajfbagdaaDoor
set_option maxRecDepth 100000
open Go.RowKit Go.ChangeShapes Go.WideShapes Go.ChangeAt

theorem gK8 : Tryd.prog.globalNamed "bailey/hashes.k" = some 1 := by kernel_rfl
theorem tK8 : (Tryd.prog.globals[1]?).map (·.type) = some 117 := by kernel_rfl
def laidK8 : List (String × DataW Unit) := [("unicode/utf8.acceptRanges", Rows.laid_unicode_utf8_acceptRanges), ("bailey/hashes.k", Rows.laid_bailey_hashes_k), ("unicode/utf8.first", Rows.laid_unicode_utf8_first)]
theorem laid_nums8 : (Rows.laid_bailey_hashes_k : DataW Unit) = .agg (kTab.map fun x => .lit (.int .u64 (x.toNat : Int))) := by kernel_rfl
theorem kat_of_laid8 {W : World} (h : laidMetH Tryd.prog laidK8 W) : KAt W := by
  rw [MakeChecks.laidMetH_plain _ _ _ (by kernel_rfl)] at h
  obtain ⟨ps, ⟨_, _, _, _, _, _, _, _, _, _, ⟨g0, t0, cs0, f0, p0, q0, hg0, ht0, hv0, hd0, _⟩, _⟩, _⟩ := h
  obtain rfl := Option.some.inj (gK8.symm.trans hg0)
  obtain rfl := Option.some.inj (tK8.symm.trans ht0)
  obtain ⟨xs, m1, rfl, hx1, hlen, hn, hel⟩ := DataW.trod_array Tryd.underlying117 hd0
  have c1 : Tryd.prog.cellsOf 78 = 1 := by kernel_rfl
  rw [c1] at hel
  simp only [Prod.mk.injEq] at hx1
  rw [laid_nums8] at hx1
  have hcell := fun j => World.var?_cell hg0 hv0 j
  have key : ∀ i x, kTab[i]? = some x → W.cell? ⟨1, i, none⟩ = some (U64 x) := by
    intro i x hx
    have hi : i < 80 := by rw [← kTab_len]; exact (List.getElem?_eq_some_iff.1 hx).1
    have h1 := hel i hi
    obtain ⟨y, hy⟩ : ∃ y, xs[i]? = some y := ⟨_, List.getElem?_eq_getElem (by omega)⟩
    rw [hy] at h1
    obtain ⟨n, e1, e2, _⟩ := DataW.trod_int Tryd.underlying78 h1
    have hxx : (xs.map (·.1))[i]? = some y.1 := by simp [hy]
    have hn2 : n = (x.toNat : Int) := by
      have e3 := hx1.1
      injection e3 with e3
      rw [← e3, List.getElem?_map, hx] at hxx
      simp only [Option.map_some, Option.some.injEq] at hxx
      rw [e2] at hxx
      simpa using hxx.symm
    subst hn2
    rw [hcell i]
    have e4 := congrArg (fun l => l[0]?) e1
    simp only [List.getElem?_take, List.getElem?_drop] at e4
    simpa [U64] using e4
  refine ⟨?_, key⟩
  have := key 0 _ rfl
  unfold World.cell? at this
  rcases Nat.lt_or_ge 1 W.heap.size with h | h
  · exact h
  · simp [Array.getElem?_eq_none h] at this
theorem door_met8 (os : Os) (args : Array Value) : laidMetH Tryd.prog laidK8 ((World.laidAll Tryd.prog os laidK8).forCall (fun _ _ => 0) ⟨#[], args, []⟩).memory := by
  rw [MakeChecks.laidMetH_plain _ _ _ (by kernel_rfl)]
  exact laidMet_laidAll _ (by kernel_rfl) (by kernel_rfl)
end Go.Proofs.YtddemlajfbagdaaDoor
