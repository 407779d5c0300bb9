/-
  Pad: begun: one encoding is told.
  Pad: the laws PadInfo and PadDec1.
  Pad: the law PadPSS.
-/
import Derived.Test.YtddemlajfbagdaaDoorZzPb0
import Derived.Lib.SlBytesConst
namespace Go.Proofs.YtddemlajfbagdaaDoor
set_option maxRecDepth 100000
open Go.RowKit

set_option maxHeartbeats 16000000 in
theorem padbegun_any (w : World) (hK : KAt w) : Calls Tryd.prog 9 #[] w fun e w' => e = .returned (.bool true) ∧ Old w w' := by
  have hmk : ∀ w : World, (Instr.makeSlice 22 (.int .i64 20) (.int .i64 20)).run Tryd.prog w = .ok (.slice (some ⟨w.heap.size, 0, none⟩) 20 20) (w.alloc (.cells (madeCells #[.int .u8 0] 20) 5)) := Tryd.prog_make 20 (by omega)
  have kc := fun (w : World) (C : Array Value) (n c : Nat) => Lib.run_convert_bytes_const (P := Tryd.prog) w 22 5 C n c Tryd.underlying22 Tryd.underlying5
  have hz : ∀ W : World, Rd (W.alloc (.cells (madeCells #[.int .u8 0] 20) 5)) (some ⟨W.heap.size, 0, none⟩) 20 20 (zs 20) := fun W => (Own.made W 20 (by decide)).rd
  obtain ⟨S1, hS1, hS1l⟩ : ∃ S, sign1F 20 [97, 98, 99] = (S, 0) ∧ S.length = 20 := ⟨_, rfl, rfl⟩
  obtain ⟨I1, hI1, hI1l⟩ : ∃ S, infoF 1 (zs 20) = (S, true) ∧ S.length = 35 := ⟨_, rfl, rfl⟩
  have hE0 : (encOF 1 60 [] (zs 20) [109]).2 = 0 := rfl
  obtain ⟨hD, _⟩ := encOF_back 1 60 [] (zs 20) [109] (by decide) hE0
  obtain ⟨E1, hE1⟩ : ∃ S, encOF 1 60 [] (zs 20) [109] = (S, 0) := ⟨_, Prod.ext rfl hE0⟩
  rw [hE1] at hD
  have hP0 : (encPF 1 400 (zs 20) []).2 = 0 := rfl
  have hV := (encPF_ver 1 400 (zs 20) [] hP0).1
  have hP8 := (encPF_ver 1 400 (zs 20) [] hP0).2.2
  obtain ⟨P1, hP1⟩ : ∃ S, encPF 1 400 (zs 20) [] = (S, 0) := ⟨_, Prod.ext rfl hP0⟩
  rw [hP1] at hV hP8
  rw [show (([] : List UInt8).length : Int) = 0 from rfl] at hV
  have hc1 := fun W hr => sign1_any 20 (some ⟨w.heap.size, 0, none⟩) 3 3 [97, 98, 99] W hr (by decide) (by decide) (by decide)
  rw [hS1] at hc1
  have hc2 := fun W A m c hr => info_any 1 A m c (zs 20) W hr
  rw [hI1] at hc2
  have hc3 := fun W A2 m2 c2 A3 m3 c3 hr2 hr3 hK hm2 hm3 => enco_any 1 60 none A2 A3 0 0 m2 c2 m3 c3 [] (zs 20) [109] W (Rd.nil _) hr2 hr3 hK (by decide) (by decide) (by decide) hm2 hm3
  rw [hE1] at hc3
  have hc4 := fun W A3 m3 c3 hr3 hK hm3 => deco_any 1 none A3 0 0 m3 c3 [] E1 W (Rd.nil _) hr3 hK (by decide) hm3
  dsimp only at hD
  rw [hD] at hc4
  have hc5 := fun W A1 m1 c1 hr1 hK => encp_any 1 400 A1 none m1 c1 0 0 (zs 20) [] W hr1 (Rd.nil _) hK (by decide) (by decide)
  rw [hP1] at hc5
  have hc6 := fun W A1 m1 c1 A3 m3 c3 hr1 hr3 hK => verp_any 1 400 0 A1 A3 m1 c1 m3 c3 (zs 20) P1 W hr1 hr3 hK (by decide)
  have hE1l : E1.length = 60 := by have := (encOF_back 1 60 [] (zs 20) [109] (by decide) hE0).2; rw [hE1] at this; exact this
  have HH := Lib.hid (And.intro hK (And.intro hz (And.intro hc1 (And.intro hc2 (And.intro hc3 (And.intro hc4 (And.intro hc5 (And.intro hc6 (And.intro hV (And.intro hS1l (And.intro hI1l (And.intro hE1l hP8))))))))))))
  clear hK hz hc1 hc2 hc3 hc4 hc5 hc6 hV hS1 hS1l hI1 hI1l hE0 hE1 hE1l hD hP0 hP1 hP8
  obtain ⟨w0, hw0⟩ : ∃ w0, w.alloc (.cells #[.int .u8 97, .int .u8 98, .int .u8 99] 5 (3, 4)) = w0 := ⟨_, rfl⟩
  have hB0 : Old w w0 := by rw [← hw0]; exact (Old.refl w).alloc _
  have hR0 : Rd w0 (some ⟨w.heap.size, 0, none⟩) 3 3 [97, 98, 99] := by rw [← hw0]; exact Rd.of_blk (l := [97, 98, 99]) (fr := (3, 4)) (heap_alloc_new w _) (by decide)
  have H0 := Lib.hid (And.intro hR0 hB0)
  clear hR0 hB0
  go_enter Tryd.func9, Tryd.ntmps9
  go_wp2_with fail
  refine (HH.out.2.2.1 w0 H0.out.1).mono ?_
  rintro e w1 ⟨A1, n1, c1, rfl, hR1, hB1⟩
  have hn1 := hR1.1
  rw [HH.out.2.2.2.2.2.2.2.2.2.1] at hn1
  subst hn1
  have H1 := Lib.hid (Old.trans H0.out.2 hB1)
  clear hR1 hB1 hw0
  obtain ⟨w2, hw2⟩ : ∃ w2, w1.alloc (.cells (madeCells #[.int .u8 0] 20) 5) = w2 := ⟨_, rfl⟩
  have hR2 : Rd w2 (some ⟨w1.heap.size, 0, none⟩) 20 20 (zs 20) := by rw [← hw2]; exact HH.out.2.1 w1
  have hB2 : Old w w2 := by rw [← hw2]; exact H1.out.alloc _
  have H2 := Lib.hid (And.intro hR2 hB2)
  clear hR2 hB2
  go_wp2_with fail
  refine (HH.out.2.2.2.1 w2 _ _ _ H2.out.1).mono ?_
  rintro e w3 ⟨A3, n3, c3, rfl, hR3, hB3⟩
  have hn3 := hR3.1
  rw [HH.out.2.2.2.2.2.2.2.2.2.2.1] at hn3
  subst hn3
  have H3 := Lib.hid (Old.trans H2.out.2 hB3)
  clear hR3 hB3 hw2
  obtain ⟨w4, hw4⟩ : ∃ w4, (w3.alloc (.cells (madeCells #[.int .u8 0] 20) 5)).alloc (.cells #[.int .u8 109] 5 (1, 2)) = w4 := ⟨_, rfl⟩
  have hR4 : Rd w4 (some ⟨w3.heap.size, 0, none⟩) 20 20 (zs 20) := by rw [← hw4]; exact (HH.out.2.1 w3).below ((Old.refl _).alloc _)
  have hR4b : Rd w4 (some ⟨w3.heap.size + 1, 0, none⟩) 1 1 [109] := by
    rw [← hw4]
    have := Rd.of_blk (l := [109]) (fr := (1, 2)) (heap_alloc_new (w3.alloc (.cells (madeCells #[.int .u8 0] 20) 5)) (.cells #[.int .u8 109] 5 (1, 2))) (by decide)
    rwa [World.size_alloc] at this
  have hB4 : Old w w4 := by rw [← hw4]; exact (H3.out.alloc _).alloc _
  have kc4 := kc (w3.alloc (.cells (madeCells #[.int .u8 0] 20) 5)) #[.int .u8 109] 1 1
  rw [World.size_alloc] at kc4
  have H4 := Lib.hid (And.intro hR4 (And.intro hR4b hB4))
  clear hR4 hR4b hB4
  go_wp2_with fail
  refine (HH.out.2.2.2.2.1 w4 _ _ _ _ _ _ H4.out.1 H4.out.2.1 (HH.out.1.below H4.out.2.2) (by decide) (by decide)).mono ?_
  rintro e w5 ⟨A5, n5, c5, rfl, hR5, hB5⟩
  have hn5 := hR5.1
  rw [HH.out.2.2.2.2.2.2.2.2.2.2.2.1] at hn5
  have H5 := Lib.hid (And.intro hR5 (And.intro (Old.trans H4.out.2.2 hB5) hn5))
  clear hR5 hB5 hw4 hn5
  go_wp2_with fail
  refine (HH.out.2.2.2.2.2.1 w5 _ _ _ H5.out.1 (HH.out.1.below H5.out.2.1) (by have := H5.out.2.2; omega)).mono ?_
  rintro e w6 ⟨A6, n6, c6, rfl, hR6, hB6⟩
  have H6 := Lib.hid (And.intro hR6 (Old.trans H5.out.2.1 hB6))
  clear hR6 hB6
  obtain ⟨w7, hw7⟩ : ∃ w7, w6.alloc (.cells (madeCells #[.int .u8 0] 20) 5) = w7 := ⟨_, rfl⟩
  have hR7 : Rd w7 (some ⟨w6.heap.size, 0, none⟩) 20 20 (zs 20) := by rw [← hw7]; exact HH.out.2.1 w6
  have hB7 : Old w w7 := by rw [← hw7]; exact H6.out.2.alloc _
  have hB67 : Old w6 w7 := by rw [← hw7]; exact (Old.refl _).alloc _
  have H7 := Lib.hid (And.intro hR7 (And.intro hB7 hB67))
  clear hR7 hB7 hB67
  go_wp2_with fail
  refine (HH.out.2.2.2.2.2.2.1 w7 _ _ _ H7.out.1 (HH.out.1.below H7.out.2.1)).mono ?_
  rintro e w8 ⟨A8, n8, c8, rfl, hR8, hB8⟩
  have hs6 := (H6.out.1.below (Old.trans H7.out.2.2 hB8)).str
  have H8 := Lib.hid (And.intro hR8 (Old.trans H7.out.2.1 hB8))
  clear hR8 hB8 hw7
  obtain ⟨w9, hw9⟩ : ∃ w9, w8.alloc (.cells (madeCells #[.int .u8 0] 20) 5) = w9 := ⟨_, rfl⟩
  have hR9 : Rd w9 (some ⟨w8.heap.size, 0, none⟩) 20 20 (zs 20) := by rw [← hw9]; exact HH.out.2.1 w8
  have hB89 : Old w8 w9 := by rw [← hw9]; exact (Old.refl _).alloc _
  have H9 := Lib.hid (And.intro hR9 (And.intro (Old.trans H8.out.2 hB89) hB89))
  clear hR9 hB89
  go_wp2_with fail
  refine (HH.out.2.2.2.2.2.2.2.1 w9 _ _ _ _ _ _ H9.out.1 (H8.out.1.below H9.out.2.2) (HH.out.1.below H9.out.2.1)).mono ?_
  rintro e w10 ⟨r, rfl, hr, hB10⟩
  have hrt : r = true := hr.2 HH.out.2.2.2.2.2.2.2.2.1
  subst hrt
  have H10 := Lib.hid (Old.trans H9.out.2.1 hB10)
  clear hr hB10 hw9
  go_wp2_with fail
  go_ret
  exact ⟨rfl, H10.out⟩
end Go.Proofs.YtddemlajfbagdaaDoor
namespace Go.Proofs.YtddemlajfbagdaaDoor
set_option maxRecDepth 100000
open Go.RowKit

def sizeF (n : Int) : Int := if 200 < n ∧ n ≤ 65536 then n % 201 else n
theorem sizeF_in (n : Int) : sizeF n ≤ 200 ∨ 65536 < sizeF n := by unfold sizeF; split <;> omega
theorem sizeF_lo (n : Int) (h : -9223372036854775808 ≤ n) : -9223372036854775808 ≤ sizeF n := by unfold sizeF; split <;> omega
set_option maxHeartbeats 2000000 in
theorem size8_any (n : Int) (w : World) : Calls Tryd.prog 10 #[.int .i64 n] w fun e w' => e = .returned (.int .i64 (sizeF n)) ∧ w = w' := by
  unfold sizeF
  by_cases h1 : 200 < n
  · have b1 : decide (n > 200) = true := decide_eq_true h1
    have c1 : n > 200 := h1
    by_cases h2 : n ≤ 65536
    · rw [if_pos ⟨h1, h2⟩]
      have b2 : decide (n ≤ 65536) = true := decide_eq_true h2
      have hm : Int.tmod n 201 = n % 201 := Int.tmod_eq_emod_of_nonneg (by omega)
      have hw : IntKind.i64.wrap (n % 201) = n % 201 := IntWalk.i64_in _ (by omega)
      go_enter Tryd.func10, Tryd.ntmps10
      go_wp2_with fail
      go_ret
      exact ⟨rfl, rfl⟩
    · rw [if_neg (fun h => h2 h.2)]
      have b2 : decide (n ≤ 65536) = false := decide_eq_false h2
      go_enter Tryd.func10, Tryd.ntmps10
      go_wp2_with fail
      go_ret
      exact ⟨rfl, rfl⟩
  · rw [if_neg (fun h => h1 h.1)]
    have b1 : decide (n > 200) = false := decide_eq_false h1
    have c1 : ¬ n > 200 := h1
    go_enter Tryd.func10, Tryd.ntmps10
    go_wp2_with fail
    go_ret
    exact ⟨rfl, rfl⟩
set_option maxHeartbeats 8000000 in
theorem padInfo_any (kind n : Int) (A : Option Addr) (m c : Nat) (t : List UInt8) (w : World) (hr : Rd w A m c t) (hK : KAt w) (hn : -9223372036854775808 ≤ n) :
    Calls Tryd.prog 3 #[.int .i64 kind, .int .i64 n, .slice A m c] w (LawRes w) := by
  have HS := Lib.hid (fun w' hw => short_any A m c 220 t w' (hr.below (w' := w') hw) (by omega))
  have hs := hr.short (n := 220)
  have hm : min m 220 ≤ 220 := Nat.min_le_right _ _
  generalize min m 220 = m2 at *
  generalize t.take 220 = t2 at *
  have hsz := size8_any n
  have h1 := sizeF_in n
  have h2 := sizeF_lo n hn
  generalize sizeF n = n2 at *
  have hf1 := fun W hr => info_any kind A m2 c t2 W hr
  have hf2 := fun W hr => rinfo_any kind A m2 c t2 W hr
  have hf3 := fun W hr => sign1_any n2 A m2 c t2 W hr h1 h2 (by omega)
  have hf4 := fun W hr => rsign1_any n2 A m2 c t2 W hr h1 h2 (by omega)
  obtain ⟨l1, b1, hI⟩ : ∃ l b, infoF kind t2 = (l, b) := ⟨_, _, rfl⟩
  obtain ⟨l2, r2, hS⟩ : ∃ l b, sign1F n2 t2 = (l, b) := ⟨_, _, rfl⟩
  rw [hI] at hf1 hf2
  rw [hS] at hf3 hf4
  have hbe := padbegun_any w hK
  have HH := Lib.hid (And.intro hbe (And.intro hsz (And.intro hs (And.intro hf1 (And.intro hf2 (And.intro hf3 hf4))))))
  clear hbe hsz hs hf1 hf2 hf3 hf4 hI hS hr hK hn h1 h2 hm
  go_enter Tryd.func3, Tryd.ntmps3
  go_wp2_with fail
  refine HH.out.1.mono ?_
  rintro e w1 ⟨rfl, hB1⟩
  have H1 := Lib.hid hB1
  clear hB1
  go_wp2_with fail
  refine (HH.out.2.1 w1).mono ?_
  rintro e w' ⟨rfl, rfl⟩
  go_wp2_with fail
  refine (HS.out _ H1.out).mono ?_
  rintro e w' ⟨rfl, rfl⟩
  go_wp2_with fail
  refine (HH.out.2.2.2.1 _ (HH.out.2.2.1.below H1.out)).mono ?_
  rintro e w2 ⟨A2, m3, c2, rfl, hR2, hB2⟩
  have H2 := Lib.hid (And.intro hR2 (Old.trans H1.out hB2))
  clear hR2 hB2
  go_wp2_with fail
  refine (HH.out.2.2.2.2.1 _ (HH.out.2.2.1.below H2.out.2)).mono ?_
  rintro e w3 ⟨A3, m4, c3, rfl, hR3, hB3⟩
  have H3 := Lib.hid (And.intro (H2.out.1.below hB3) (And.intro hR3 (Old.trans H2.out.2 hB3)))
  clear hR3 hB3
  go_wp2_with fail
  refine (HH.out.2.2.2.2.2.1 _ (HH.out.2.2.1.below H3.out.2.2)).mono ?_
  rintro e w4 ⟨A4, m5, c4, rfl, hR4, hB4⟩
  have H4 := Lib.hid (And.intro (H3.out.1.below hB4) (And.intro (H3.out.2.1.below hB4) (And.intro hR4 (Old.trans H3.out.2.2 hB4))))
  clear hR4 hB4
  go_wp2_with fail
  refine (HH.out.2.2.2.2.2.2 _ (HH.out.2.2.1.below H4.out.2.2.2)).mono ?_
  rintro e w5 ⟨A5, m6, c5, rfl, hR5, hB5⟩
  have s1 := (H4.out.1.below hB5).str
  have s2 := (H4.out.2.1.below hB5).str
  have s3 := (H4.out.2.2.1.below hB5).str
  have s4 := hR5.str
  have H5 := Lib.hid (Old.trans H4.out.2.2.2 hB5)
  clear hR5 hB5
  go_wp2_with fail
  go_ret
  exact ⟨rfl, H5.out⟩
set_option maxHeartbeats 8000000 in
theorem padDec1_any (A : Option Addr) (m c : Nat) (t : List UInt8) (w : World) (hr : Rd w A m c t) (hK : KAt w) :
    Calls Tryd.prog 7 #[.slice A m c] w (LawRes w) := by
  have HS := Lib.hid (fun w' hw => short_any A m c 200 t w' (hr.below (w' := w') hw) (by omega))
  have hs := hr.short (n := 200)
  have hm : min m 200 ≤ 200 := Nat.min_le_right _ _
  generalize min m 200 = m2 at *
  generalize t.take 200 = t2 at *
  have hf1 := fun W hr => dec1_any A m2 c t2 W hr (by omega)
  have hf2 := fun W hr => rdec1_any A m2 c t2 W hr (by omega)
  obtain ⟨l1, b1, hI⟩ : ∃ l b, dec1F t2 = (l, b) := ⟨_, _, rfl⟩
  rw [hI] at hf1 hf2
  have hbe := padbegun_any w hK
  have HH := Lib.hid (And.intro hbe (And.intro hs (And.intro hf1 hf2)))
  clear hbe hs hf1 hf2 hI hr hK hm
  go_enter Tryd.func7, Tryd.ntmps7
  go_wp2_with fail
  refine HH.out.1.mono ?_
  rintro e w1 ⟨rfl, hB1⟩
  have H1 := Lib.hid hB1
  clear hB1
  go_wp2_with fail
  refine (HS.out _ H1.out).mono ?_
  rintro e w' ⟨rfl, rfl⟩
  go_wp2_with fail
  refine (HH.out.2.2.1 _ (HH.out.2.1.below H1.out)).mono ?_
  rintro e w2 ⟨A2, m3, c2, rfl, hR2, hB2⟩
  have H2 := Lib.hid (And.intro hR2 (Old.trans H1.out hB2))
  clear hR2 hB2
  go_wp2_with fail
  refine (HH.out.2.2.2 _ (HH.out.2.1.below H2.out.2)).mono ?_
  rintro e w3 ⟨A3, m4, c3, rfl, hR3, hB3⟩
  have s1 := (H2.out.1.below hB3).str
  have s2 := hR3.str
  have H3 := Lib.hid (Old.trans H2.out.2 hB3)
  clear hR3 hB3
  go_wp2_with fail
  go_ret
  exact ⟨rfl, H3.out⟩
end Go.Proofs.YtddemlajfbagdaaDoor
namespace Go.Proofs.YtddemlajfbagdaaDoor
set_option maxRecDepth 100000
open Go.RowKit

set_option maxHeartbeats 8000000 in
theorem padPSS_any (kind bits n : Int) (A1 A2 A3 : Option Addr) (m1 c1 m2 c2 m3 c3 : Nat) (hash salt em : List UInt8) (w : World) (h1 : Rd w A1 m1 c1 hash) (h2 : Rd w A2 m2 c2 salt) (h3 : Rd w A3 m3 c3 em) (hK : KAt w) :
    Calls Tryd.prog 5 #[.int .i64 kind, .int .i64 bits, .slice A1 m1 c1, .slice A2 m2 c2, .slice A3 m3 c3, .int .i64 n] w (LawRes w) := by
  have HS := Lib.hid (And.intro (fun w' hw => short_any A1 m1 c1 70 hash w' (h1.below (w' := w') hw) (by omega)) (And.intro (fun w' hw => short_any A2 m2 c2 60 salt w' (h2.below (w' := w') hw) (by omega)) (fun w' hw => short_any A3 m3 c3 250 em w' (h3.below (w' := w') hw) (by omega))))
  replace h1 := h1.short (n := 70)
  replace h2 := h2.short (n := 60)
  replace h3 := h3.short (n := 250)
  have g1 : min m1 70 ≤ 70 := Nat.min_le_right _ _
  have g2 : min m2 60 ≤ 60 := Nat.min_le_right _ _
  have g3 : min m3 250 ≤ 250 := Nat.min_le_right _ _
  generalize min m1 70 = p1 at *
  generalize min m2 60 = p2 at *
  generalize min m3 250 = p3 at *
  generalize hash.take 70 = hh at *
  generalize salt.take 60 = ss at *
  generalize em.take 250 = ee at *
  have hbe := padbegun_any w hK
  by_cases z1 : 1500 < bits
  · have b1 : decide (bits > 1500) = true := decide_eq_true z1
    have z1i : bits > 1500 := z1
    by_cases z2 : bits ≤ 65536
    · have b2 : decide (bits ≤ 65536) = true := decide_eq_true z2
      obtain ⟨b5, hb5⟩ : ∃ x, bits % 1501 = x := ⟨_, rfl⟩
      have hb5r : 0 ≤ b5 ∧ b5 ≤ 1500 := by omega
      have hm5 : Int.tmod bits 1501 = b5 := by rw [Int.tmod_eq_emod_of_nonneg (by omega)]; exact hb5
      have hw5 : IntKind.i64.wrap b5 = b5 := IntWalk.i64_in _ (by omega)
      clear hb5
      have hf1 := fun W (hw : Old w W) => encp_any kind b5 A1 A2 p1 c1 p2 c2 hh ss W (h1.below hw) (h2.below hw) (hK.below hw) (by omega) (by omega)
      have hf2 := fun W (hw : Old w W) => rencp_any kind b5 A1 A2 p1 c1 p2 c2 hh ss W (h1.below hw) (h2.below hw) (by omega) (by omega)
      have hf3 := fun W (hw : Old w W) => verp_any kind b5 n A1 A3 p1 c1 p3 c3 hh ee W (h1.below hw) (h3.below hw) (hK.below hw) (by omega)
      have hf4 := fun W (hw : Old w W) => rverp_any kind b5 n A1 A3 p1 c1 p3 c3 hh ee W (h1.below hw) (h3.below hw) (by omega)
      have hv := encPF_ver kind b5 hh ss
      obtain ⟨l1, r1, hE⟩ : ∃ l b, encPF kind b5 hh ss = (l, b) := ⟨_, _, rfl⟩
      rw [hE] at hf1 hf2 hv
      dsimp only at hv
      by_cases e0 : r1 = 0
      · subst e0
        obtain ⟨hv1, hv2, _⟩ := hv rfl
        rw [← h2.1] at hv1 hv2
        obtain ⟨pI, hpI⟩ : ∃ x, (p2 : Int) + 1 = x := ⟨_, rfl⟩
        have hpIw : IntKind.i64.wrap pI = pI := IntWalk.i64_in _ (by omega)
        rw [hpI] at hv2
        have hf5 := fun W A (c : Nat) (hw : Old w W) (hr : Rd W A l1.length c l1) => verp_any kind b5 (p2 : Int) A1 A p1 c1 l1.length c hh l1 W (h1.below hw) hr (hK.below hw) (by omega)
        have hf6 := fun W A (c : Nat) (hw : Old w W) (hr : Rd W A l1.length c l1) => verp_any kind b5 pI A1 A p1 c1 l1.length c hh l1 W (h1.below hw) hr (hK.below hw) (by omega)
        have HH := Lib.hid (And.intro hbe (And.intro hf1 (And.intro hf2 (And.intro hf3 (And.intro hf4 (And.intro hf5 (And.intro hf6 (And.intro hv1 hv2))))))))
        clear hbe hf1 hf2 hf3 hf4 hf5 hf6 hv hv1 hv2 hE h1 h2 h3 hK g1 g2 g3
        go_enter Tryd.func5, Tryd.ntmps5
        go_wp2_with fail
        refine HH.out.1.mono ?_
        rintro e w1 ⟨rfl, hB1⟩
        have H1 := Lib.hid hB1
        clear hB1
        go_wp2_with fail
        refine (HS.out.1 _ H1.out).mono ?_
        rintro e w' ⟨rfl, rfl⟩
        go_wp2_with fail
        refine (HS.out.2.1 _ H1.out).mono ?_
        rintro e w' ⟨rfl, rfl⟩
        go_wp2_with fail
        refine (HS.out.2.2 _ H1.out).mono ?_
        rintro e w' ⟨rfl, rfl⟩
        go_wp2_with fail
        refine (HH.out.2.1 _ H1.out).mono ?_
        rintro e w2 ⟨A4, n4, c4, rfl, hR2, hB2⟩
        have H2 := Lib.hid (And.intro hR2 (Old.trans H1.out hB2))
        clear hR2 hB2
        go_wp2_with fail
        refine (HH.out.2.2.1 _ H2.out.2).mono ?_
        rintro e w3 ⟨A5, n5, c5, rfl, hR3, hB3⟩
        have s1 := (H2.out.1.below hB3).str
        have s2 := hR3.str
        have H3 := Lib.hid (And.intro (H2.out.1.below hB3) (Old.trans H2.out.2 hB3))
        clear hR3 hB3
        go_wp2_with fail
        refine (HH.out.2.2.2.1 _ H3.out.2).mono ?_
        rintro e w4 ⟨q1, rfl, hq1, hB4⟩
        have H4 := Lib.hid (And.intro (H3.out.1.below hB4) (And.intro hq1 (Old.trans H3.out.2 hB4)))
        clear hq1 hB4
        go_wp2_with fail
        refine (HH.out.2.2.2.2.1 _ H4.out.2.2).mono ?_
        rintro e w5 ⟨q2, rfl, hq2, hB5⟩
        have hqe : q1 = q2 := Bool.eq_iff_iff.2 (H4.out.2.1.trans hq2.symm)
        subst hqe
        have hqq : (q1 != q1) = false := by simp
        have H5 := Lib.hid (And.intro (H4.out.1.below hB5) (Old.trans H4.out.2.2 hB5))
        clear hq2 hB5
        go_wp2_with fail
        have hn4 := H5.out.1.1
        subst hn4
        refine (HH.out.2.2.2.2.2.1 _ _ _ H5.out.2 H5.out.1).mono ?_
        rintro e w6 ⟨q3, rfl, hq3, hB6⟩
        obtain rfl : q3 = true := hq3.2 HH.out.2.2.2.2.2.2.2.1
        have H6 := Lib.hid (And.intro (H5.out.1.below hB6) (Old.trans H5.out.2 hB6))
        clear hq3 hB6
        go_wp2_with fail
        refine (HH.out.2.2.2.2.2.2.1 _ _ _ H6.out.2 H6.out.1).mono ?_
        rintro e w7 ⟨q4, rfl, hq4, hB7⟩
        obtain rfl : q4 = false := by
          cases q4 with
          | false => rfl
          | true => exact absurd (hq4.1 rfl) HH.out.2.2.2.2.2.2.2.2
        have H7 := Lib.hid (Old.trans H6.out.2 hB7)
        clear hq4 hB7
        go_wp2_with fail
        go_ret
        exact ⟨rfl, H7.out⟩
      · have b0 : (r1 != 0) = true := by simpa using e0
        have HH := Lib.hid (And.intro hbe (And.intro hf1 (And.intro hf2 (And.intro hf3 (And.intro hf4 trivial)))))
        clear hbe hf1 hf2 hf3 hf4 hv hE h1 h2 h3 hK g1 g2 g3 e0
        go_enter Tryd.func5, Tryd.ntmps5
        go_wp2_with fail
        refine HH.out.1.mono ?_
        rintro e w1 ⟨rfl, hB1⟩
        have H1 := Lib.hid hB1
        clear hB1
        go_wp2_with fail
        refine (HS.out.1 _ H1.out).mono ?_
        rintro e w' ⟨rfl, rfl⟩
        go_wp2_with fail
        refine (HS.out.2.1 _ H1.out).mono ?_
        rintro e w' ⟨rfl, rfl⟩
        go_wp2_with fail
        refine (HS.out.2.2 _ H1.out).mono ?_
        rintro e w' ⟨rfl, rfl⟩
        go_wp2_with fail
        refine (HH.out.2.1 _ H1.out).mono ?_
        rintro e w2 ⟨A4, n4, c4, rfl, hR2, hB2⟩
        have H2 := Lib.hid (And.intro hR2 (Old.trans H1.out hB2))
        clear hR2 hB2
        go_wp2_with fail
        refine (HH.out.2.2.1 _ H2.out.2).mono ?_
        rintro e w3 ⟨A5, n5, c5, rfl, hR3, hB3⟩
        have s1 := (H2.out.1.below hB3).str
        have s2 := hR3.str
        have H3 := Lib.hid (And.intro (H2.out.1.below hB3) (Old.trans H2.out.2 hB3))
        clear hR3 hB3
        go_wp2_with fail
        refine (HH.out.2.2.2.1 _ H3.out.2).mono ?_
        rintro e w4 ⟨q1, rfl, hq1, hB4⟩
        have H4 := Lib.hid (And.intro (H3.out.1.below hB4) (And.intro hq1 (Old.trans H3.out.2 hB4)))
        clear hq1 hB4
        go_wp2_with fail
        refine (HH.out.2.2.2.2.1 _ H4.out.2.2).mono ?_
        rintro e w5 ⟨q2, rfl, hq2, hB5⟩
        have hqe : q1 = q2 := Bool.eq_iff_iff.2 (H4.out.2.1.trans hq2.symm)
        subst hqe
        have hqq : (q1 != q1) = false := by simp
        have H5 := Lib.hid (And.intro (H4.out.1.below hB5) (Old.trans H4.out.2.2 hB5))
        clear hq2 hB5
        go_wp2_with fail
        go_ret
        exact ⟨rfl, H5.out.2⟩
    · have b2 : decide (bits ≤ 65536) = false := decide_eq_false z2
      have hf1 := fun W (hw : Old w W) => encp_any kind bits A1 A2 p1 c1 p2 c2 hh ss W (h1.below hw) (h2.below hw) (hK.below hw) (by omega) (by omega)
      have hf2 := fun W (hw : Old w W) => rencp_any kind bits A1 A2 p1 c1 p2 c2 hh ss W (h1.below hw) (h2.below hw) (by omega) (by omega)
      have hf3 := fun W (hw : Old w W) => verp_any kind bits n A1 A3 p1 c1 p3 c3 hh ee W (h1.below hw) (h3.below hw) (hK.below hw) (by omega)
      have hf4 := fun W (hw : Old w W) => rverp_any kind bits n A1 A3 p1 c1 p3 c3 hh ee W (h1.below hw) (h3.below hw) (by omega)
      have hv := encPF_ver kind bits hh ss
      obtain ⟨l1, r1, hE⟩ : ∃ l b, encPF kind bits hh ss = (l, b) := ⟨_, _, rfl⟩
      rw [hE] at hf1 hf2 hv
      dsimp only at hv
      by_cases e0 : r1 = 0
      · subst e0
        obtain ⟨hv1, hv2, _⟩ := hv rfl
        rw [← h2.1] at hv1 hv2
        obtain ⟨pI, hpI⟩ : ∃ x, (p2 : Int) + 1 = x := ⟨_, rfl⟩
        have hpIw : IntKind.i64.wrap pI = pI := IntWalk.i64_in _ (by omega)
        rw [hpI] at hv2
        have hf5 := fun W A (c : Nat) (hw : Old w W) (hr : Rd W A l1.length c l1) => verp_any kind bits (p2 : Int) A1 A p1 c1 l1.length c hh l1 W (h1.below hw) hr (hK.below hw) (by omega)
        have hf6 := fun W A (c : Nat) (hw : Old w W) (hr : Rd W A l1.length c l1) => verp_any kind bits pI A1 A p1 c1 l1.length c hh l1 W (h1.below hw) hr (hK.below hw) (by omega)
        have HH := Lib.hid (And.intro hbe (And.intro hf1 (And.intro hf2 (And.intro hf3 (And.intro hf4 (And.intro hf5 (And.intro hf6 (And.intro hv1 hv2))))))))
        clear hbe hf1 hf2 hf3 hf4 hf5 hf6 hv hv1 hv2 hE h1 h2 h3 hK g1 g2 g3
        go_enter Tryd.func5, Tryd.ntmps5
        go_wp2_with fail
        refine HH.out.1.mono ?_
        rintro e w1 ⟨rfl, hB1⟩
        have H1 := Lib.hid hB1
        clear hB1
        go_wp2_with fail
        refine (HS.out.1 _ H1.out).mono ?_
        rintro e w' ⟨rfl, rfl⟩
        go_wp2_with fail
        refine (HS.out.2.1 _ H1.out).mono ?_
        rintro e w' ⟨rfl, rfl⟩
        go_wp2_with fail
        refine (HS.out.2.2 _ H1.out).mono ?_
        rintro e w' ⟨rfl, rfl⟩
        go_wp2_with fail
        refine (HH.out.2.1 _ H1.out).mono ?_
        rintro e w2 ⟨A4, n4, c4, rfl, hR2, hB2⟩
        have H2 := Lib.hid (And.intro hR2 (Old.trans H1.out hB2))
        clear hR2 hB2
        go_wp2_with fail
        refine (HH.out.2.2.1 _ H2.out.2).mono ?_
        rintro e w3 ⟨A5, n5, c5, rfl, hR3, hB3⟩
        have s1 := (H2.out.1.below hB3).str
        have s2 := hR3.str
        have H3 := Lib.hid (And.intro (H2.out.1.below hB3) (Old.trans H2.out.2 hB3))
        clear hR3 hB3
        go_wp2_with fail
        refine (HH.out.2.2.2.1 _ H3.out.2).mono ?_
        rintro e w4 ⟨q1, rfl, hq1, hB4⟩
        have H4 := Lib.hid (And.intro (H3.out.1.below hB4) (And.intro hq1 (Old.trans H3.out.2 hB4)))
        clear hq1 hB4
        go_wp2_with fail
        refine (HH.out.2.2.2.2.1 _ H4.out.2.2).mono ?_
        rintro e w5 ⟨q2, rfl, hq2, hB5⟩
        have hqe : q1 = q2 := Bool.eq_iff_iff.2 (H4.out.2.1.trans hq2.symm)
        subst hqe
        have hqq : (q1 != q1) = false := by simp
        have H5 := Lib.hid (And.intro (H4.out.1.below hB5) (Old.trans H4.out.2.2 hB5))
        clear hq2 hB5
        go_wp2_with fail
        have hn4 := H5.out.1.1
        subst hn4
        refine (HH.out.2.2.2.2.2.1 _ _ _ H5.out.2 H5.out.1).mono ?_
        rintro e w6 ⟨q3, rfl, hq3, hB6⟩
        obtain rfl : q3 = true := hq3.2 HH.out.2.2.2.2.2.2.2.1
        have H6 := Lib.hid (And.intro (H5.out.1.below hB6) (Old.trans H5.out.2 hB6))
        clear hq3 hB6
        go_wp2_with fail
        refine (HH.out.2.2.2.2.2.2.1 _ _ _ H6.out.2 H6.out.1).mono ?_
        rintro e w7 ⟨q4, rfl, hq4, hB7⟩
        obtain rfl : q4 = false := by
          cases q4 with
          | false => rfl
          | true => exact absurd (hq4.1 rfl) HH.out.2.2.2.2.2.2.2.2
        have H7 := Lib.hid (Old.trans H6.out.2 hB7)
        clear hq4 hB7
        go_wp2_with fail
        go_ret
        exact ⟨rfl, H7.out⟩
      · have b0 : (r1 != 0) = true := by simpa using e0
        have HH := Lib.hid (And.intro hbe (And.intro hf1 (And.intro hf2 (And.intro hf3 (And.intro hf4 trivial)))))
        clear hbe hf1 hf2 hf3 hf4 hv hE h1 h2 h3 hK g1 g2 g3 e0
        go_enter Tryd.func5, Tryd.ntmps5
        go_wp2_with fail
        refine HH.out.1.mono ?_
        rintro e w1 ⟨rfl, hB1⟩
        have H1 := Lib.hid hB1
        clear hB1
        go_wp2_with fail
        refine (HS.out.1 _ H1.out).mono ?_
        rintro e w' ⟨rfl, rfl⟩
        go_wp2_with fail
        refine (HS.out.2.1 _ H1.out).mono ?_
        rintro e w' ⟨rfl, rfl⟩
        go_wp2_with fail
        refine (HS.out.2.2 _ H1.out).mono ?_
        rintro e w' ⟨rfl, rfl⟩
        go_wp2_with fail
        refine (HH.out.2.1 _ H1.out).mono ?_
        rintro e w2 ⟨A4, n4, c4, rfl, hR2, hB2⟩
        have H2 := Lib.hid (And.intro hR2 (Old.trans H1.out hB2))
        clear hR2 hB2
        go_wp2_with fail
        refine (HH.out.2.2.1 _ H2.out.2).mono ?_
        rintro e w3 ⟨A5, n5, c5, rfl, hR3, hB3⟩
        have s1 := (H2.out.1.below hB3).str
        have s2 := hR3.str
        have H3 := Lib.hid (And.intro (H2.out.1.below hB3) (Old.trans H2.out.2 hB3))
        clear hR3 hB3
        go_wp2_with fail
        refine (HH.out.2.2.2.1 _ H3.out.2).mono ?_
        rintro e w4 ⟨q1, rfl, hq1, hB4⟩
        have H4 := Lib.hid (And.intro (H3.out.1.below hB4) (And.intro hq1 (Old.trans H3.out.2 hB4)))
        clear hq1 hB4
        go_wp2_with fail
        refine (HH.out.2.2.2.2.1 _ H4.out.2.2).mono ?_
        rintro e w5 ⟨q2, rfl, hq2, hB5⟩
        have hqe : q1 = q2 := Bool.eq_iff_iff.2 (H4.out.2.1.trans hq2.symm)
        subst hqe
        have hqq : (q1 != q1) = false := by simp
        have H5 := Lib.hid (And.intro (H4.out.1.below hB5) (Old.trans H4.out.2.2 hB5))
        clear hq2 hB5
        go_wp2_with fail
        go_ret
        exact ⟨rfl, H5.out.2⟩
  · have b1 : decide (bits > 1500) = false := decide_eq_false z1
    have z1i : ¬ bits > 1500 := z1
    have hf1 := fun W (hw : Old w W) => encp_any kind bits A1 A2 p1 c1 p2 c2 hh ss W (h1.below hw) (h2.below hw) (hK.below hw) (by omega) (by omega)
    have hf2 := fun W (hw : Old w W) => rencp_any kind bits A1 A2 p1 c1 p2 c2 hh ss W (h1.below hw) (h2.below hw) (by omega) (by omega)
    have hf3 := fun W (hw : Old w W) => verp_any kind bits n A1 A3 p1 c1 p3 c3 hh ee W (h1.below hw) (h3.below hw) (hK.below hw) (by omega)
    have hf4 := fun W (hw : Old w W) => rverp_any kind bits n A1 A3 p1 c1 p3 c3 hh ee W (h1.below hw) (h3.below hw) (by omega)
    have hv := encPF_ver kind bits hh ss
    obtain ⟨l1, r1, hE⟩ : ∃ l b, encPF kind bits hh ss = (l, b) := ⟨_, _, rfl⟩
    rw [hE] at hf1 hf2 hv
    dsimp only at hv
    by_cases e0 : r1 = 0
    · subst e0
      obtain ⟨hv1, hv2, _⟩ := hv rfl
      rw [← h2.1] at hv1 hv2
      obtain ⟨pI, hpI⟩ : ∃ x, (p2 : Int) + 1 = x := ⟨_, rfl⟩
      have hpIw : IntKind.i64.wrap pI = pI := IntWalk.i64_in _ (by omega)
      rw [hpI] at hv2
      have hf5 := fun W A (c : Nat) (hw : Old w W) (hr : Rd W A l1.length c l1) => verp_any kind bits (p2 : Int) A1 A p1 c1 l1.length c hh l1 W (h1.below hw) hr (hK.below hw) (by omega)
      have hf6 := fun W A (c : Nat) (hw : Old w W) (hr : Rd W A l1.length c l1) => verp_any kind bits pI A1 A p1 c1 l1.length c hh l1 W (h1.below hw) hr (hK.below hw) (by omega)
      have HH := Lib.hid (And.intro hbe (And.intro hf1 (And.intro hf2 (And.intro hf3 (And.intro hf4 (And.intro hf5 (And.intro hf6 (And.intro hv1 hv2))))))))
      clear hbe hf1 hf2 hf3 hf4 hf5 hf6 hv hv1 hv2 hE h1 h2 h3 hK g1 g2 g3
      go_enter Tryd.func5, Tryd.ntmps5
      go_wp2_with fail
      refine HH.out.1.mono ?_
      rintro e w1 ⟨rfl, hB1⟩
      have H1 := Lib.hid hB1
      clear hB1
      go_wp2_with fail
      refine (HS.out.1 _ H1.out).mono ?_
      rintro e w' ⟨rfl, rfl⟩
      go_wp2_with fail
      refine (HS.out.2.1 _ H1.out).mono ?_
      rintro e w' ⟨rfl, rfl⟩
      go_wp2_with fail
      refine (HS.out.2.2 _ H1.out).mono ?_
      rintro e w' ⟨rfl, rfl⟩
      go_wp2_with fail
      refine (HH.out.2.1 _ H1.out).mono ?_
      rintro e w2 ⟨A4, n4, c4, rfl, hR2, hB2⟩
      have H2 := Lib.hid (And.intro hR2 (Old.trans H1.out hB2))
      clear hR2 hB2
      go_wp2_with fail
      refine (HH.out.2.2.1 _ H2.out.2).mono ?_
      rintro e w3 ⟨A5, n5, c5, rfl, hR3, hB3⟩
      have s1 := (H2.out.1.below hB3).str
      have s2 := hR3.str
      have H3 := Lib.hid (And.intro (H2.out.1.below hB3) (Old.trans H2.out.2 hB3))
      clear hR3 hB3
      go_wp2_with fail
      refine (HH.out.2.2.2.1 _ H3.out.2).mono ?_
      rintro e w4 ⟨q1, rfl, hq1, hB4⟩
      have H4 := Lib.hid (And.intro (H3.out.1.below hB4) (And.intro hq1 (Old.trans H3.out.2 hB4)))
      clear hq1 hB4
      go_wp2_with fail
      refine (HH.out.2.2.2.2.1 _ H4.out.2.2).mono ?_
      rintro e w5 ⟨q2, rfl, hq2, hB5⟩
      have hqe : q1 = q2 := Bool.eq_iff_iff.2 (H4.out.2.1.trans hq2.symm)
      subst hqe
      have hqq : (q1 != q1) = false := by simp
      have H5 := Lib.hid (And.intro (H4.out.1.below hB5) (Old.trans H4.out.2.2 hB5))
      clear hq2 hB5
      go_wp2_with fail
      have hn4 := H5.out.1.1
      subst hn4
      refine (HH.out.2.2.2.2.2.1 _ _ _ H5.out.2 H5.out.1).mono ?_
      rintro e w6 ⟨q3, rfl, hq3, hB6⟩
      obtain rfl : q3 = true := hq3.2 HH.out.2.2.2.2.2.2.2.1
      have H6 := Lib.hid (And.intro (H5.out.1.below hB6) (Old.trans H5.out.2 hB6))
      clear hq3 hB6
      go_wp2_with fail
      refine (HH.out.2.2.2.2.2.2.1 _ _ _ H6.out.2 H6.out.1).mono ?_
      rintro e w7 ⟨q4, rfl, hq4, hB7⟩
      obtain rfl : q4 = false := by
        cases q4 with
        | false => rfl
        | true => exact absurd (hq4.1 rfl) HH.out.2.2.2.2.2.2.2.2
      have H7 := Lib.hid (Old.trans H6.out.2 hB7)
      clear hq4 hB7
      go_wp2_with fail
      go_ret
      exact ⟨rfl, H7.out⟩
    · have b0 : (r1 != 0) = true := by simpa using e0
      have HH := Lib.hid (And.intro hbe (And.intro hf1 (And.intro hf2 (And.intro hf3 (And.intro hf4 trivial)))))
      clear hbe hf1 hf2 hf3 hf4 hv hE h1 h2 h3 hK g1 g2 g3 e0
      go_enter Tryd.func5, Tryd.ntmps5
      go_wp2_with fail
      refine HH.out.1.mono ?_
      rintro e w1 ⟨rfl, hB1⟩
      have H1 := Lib.hid hB1
      clear hB1
      go_wp2_with fail
      refine (HS.out.1 _ H1.out).mono ?_
      rintro e w' ⟨rfl, rfl⟩
      go_wp2_with fail
      refine (HS.out.2.1 _ H1.out).mono ?_
      rintro e w' ⟨rfl, rfl⟩
      go_wp2_with fail
      refine (HS.out.2.2 _ H1.out).mono ?_
      rintro e w' ⟨rfl, rfl⟩
      go_wp2_with fail
      refine (HH.out.2.1 _ H1.out).mono ?_
      rintro e w2 ⟨A4, n4, c4, rfl, hR2, hB2⟩
      have H2 := Lib.hid (And.intro hR2 (Old.trans H1.out hB2))
      clear hR2 hB2
      go_wp2_with fail
      refine (HH.out.2.2.1 _ H2.out.2).mono ?_
      rintro e w3 ⟨A5, n5, c5, rfl, hR3, hB3⟩
      have s1 := (H2.out.1.below hB3).str
      have s2 := hR3.str
      have H3 := Lib.hid (And.intro (H2.out.1.below hB3) (Old.trans H2.out.2 hB3))
      clear hR3 hB3
      go_wp2_with fail
      refine (HH.out.2.2.2.1 _ H3.out.2).mono ?_
      rintro e w4 ⟨q1, rfl, hq1, hB4⟩
      have H4 := Lib.hid (And.intro (H3.out.1.below hB4) (And.intro hq1 (Old.trans H3.out.2 hB4)))
      clear hq1 hB4
      go_wp2_with fail
      refine (HH.out.2.2.2.2.1 _ H4.out.2.2).mono ?_
      rintro e w5 ⟨q2, rfl, hq2, hB5⟩
      have hqe : q1 = q2 := Bool.eq_iff_iff.2 (H4.out.2.1.trans hq2.symm)
      subst hqe
      have hqq : (q1 != q1) = false := by simp
      have H5 := Lib.hid (And.intro (H4.out.1.below hB5) (Old.trans H4.out.2.2 hB5))
      clear hq2 hB5
      go_wp2_with fail
      go_ret
      exact ⟨rfl, H5.out.2⟩
end Go.Proofs.YtddemlajfbagdaaDoor
