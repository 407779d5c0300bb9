/-
  Pad: begun: one encoding is told.
  Pad: the laws PadInfo and PadDec1.
  Pad: PSS is made, in memory of one's own.
-/
import Derived.Test.YtddemlajfbagdaaDoorZzPb0
import Derived.Lib.SlBytesConst
import Derived.Test.YtddemlajfbagdaaDoorZzPd8
namespace Go.Proofs.YtddemlajfbagdaaDoor
set_option maxRecDepth 100000
open Go.RowKit

set_option maxHeartbeats 16000000 in
theorem padbegun_any (w : World) (hK : KAt w) : Calls Tryd.prog 9 #[] w fun e w' => e = .returned (.bool true) ∧ Old w w' := by
  have hmk : ∀ w : World, (Instr.makeSlice 22 (.int .i64 20) (.int .i64 20)).run Tryd.prog w = .ok (.slice (some ⟨w.heap.size, 0, none⟩) 20 20) (w.alloc (.cells (madeCells #[.int .u8 0] 20) 5)) := Tryd.prog_make 20 (by omega)
  have kc := fun (w : World) (C : Array Value) (n c : Nat) => Lib.run_convert_bytes_const (P := Tryd.prog) w 22 5 C n c Tryd.underlying22 Tryd.underlying5
  have hz : ∀ W : World, Rd (W.alloc (.cells (madeCells #[.int .u8 0] 20) 5)) (some ⟨W.heap.size, 0, none⟩) 20 20 (zs 20) := fun W => (Own.made W 20 (by decide)).rd
  obtain ⟨S1, hS1, hS1l⟩ : ∃ S, sign1F 20 [97, 98, 99] = (S, 0) ∧ S.length = 20 := ⟨_, rfl, rfl⟩
  obtain ⟨I1, hI1, hI1l⟩ : ∃ S, infoF 1 (zs 20) = (S, true) ∧ S.length = 35 := ⟨_, rfl, rfl⟩
  have hE0 : (encOF 1 60 [] (zs 20) [109]).2 = 0 := rfl
  obtain ⟨hD, _⟩ := encOF_back 1 60 [] (zs 20) [109] (by decide) hE0
  obtain ⟨E1, hE1⟩ : ∃ S, encOF 1 60 [] (zs 20) [109] = (S, 0) := ⟨_, Prod.ext rfl hE0⟩
  rw [hE1] at hD
  have hP0 : (encPF 1 400 (zs 20) []).2 = 0 := rfl
  have hV := (encPF_ver 1 400 (zs 20) [] hP0).1
  have hP8 := (encPF_ver 1 400 (zs 20) [] hP0).2.2
  obtain ⟨P1, hP1⟩ : ∃ S, encPF 1 400 (zs 20) [] = (S, 0) := ⟨_, Prod.ext rfl hP0⟩
  rw [hP1] at hV hP8
  rw [show (([] : List UInt8).length : Int) = 0 from rfl] at hV
  have hc1 := fun W hr => sign1_any 20 (some ⟨w.heap.size, 0, none⟩) 3 3 [97, 98, 99] W hr (by decide) (by decide) (by decide)
  rw [hS1] at hc1
  have hc2 := fun W A m c hr => info_any 1 A m c (zs 20) W hr
  rw [hI1] at hc2
  have hc3 := fun W A2 m2 c2 A3 m3 c3 hr2 hr3 hK hm2 hm3 => enco_any 1 60 none A2 A3 0 0 m2 c2 m3 c3 [] (zs 20) [109] W (Rd.nil _) hr2 hr3 hK (by decide) (by decide) (by decide) hm2 hm3
  rw [hE1] at hc3
  have hc4 := fun W A3 m3 c3 hr3 hK hm3 => deco_any 1 none A3 0 0 m3 c3 [] E1 W (Rd.nil _) hr3 hK (by decide) hm3
  dsimp only at hD
  rw [hD] at hc4
  have hc5 := fun W A1 m1 c1 hr1 hK => encp_any 1 400 A1 none m1 c1 0 0 (zs 20) [] W hr1 (Rd.nil _) hK (by decide) (by decide)
  rw [hP1] at hc5
  have hc6 := fun W A1 m1 c1 A3 m3 c3 hr1 hr3 hK => verp_any 1 400 0 A1 A3 m1 c1 m3 c3 (zs 20) P1 W hr1 hr3 hK (by decide)
  have hE1l : E1.length = 60 := by have := (encOF_back 1 60 [] (zs 20) [109] (by decide) hE0).2; rw [hE1] at this; exact this
  have HH := Lib.hid (And.intro hK (And.intro hz (And.intro hc1 (And.intro hc2 (And.intro hc3 (And.intro hc4 (And.intro hc5 (And.intro hc6 (And.intro hV (And.intro hS1l (And.intro hI1l (And.intro hE1l hP8))))))))))))
  clear hK hz hc1 hc2 hc3 hc4 hc5 hc6 hV hS1 hS1l hI1 hI1l hE0 hE1 hE1l hD hP0 hP1 hP8
  obtain ⟨w0, hw0⟩ : ∃ w0, w.alloc (.cells #[.int .u8 97, .int .u8 98, .int .u8 99] 5 (3, 4)) = w0 := ⟨_, rfl⟩
  have hB0 : Old w w0 := by rw [← hw0]; exact (Old.refl w).alloc _
  have hR0 : Rd w0 (some ⟨w.heap.size, 0, none⟩) 3 3 [97, 98, 99] := by rw [← hw0]; exact Rd.of_blk (l := [97, 98, 99]) (fr := (3, 4)) (heap_alloc_new w _) (by decide)
  have H0 := Lib.hid (And.intro hR0 hB0)
  clear hR0 hB0
  go_enter Tryd.func9, Tryd.ntmps9
  go_wp2_with fail
  refine (HH.out.2.2.1 w0 H0.out.1).mono ?_
  rintro e w1 ⟨A1, n1, c1, rfl, hR1, hB1⟩
  have hn1 := hR1.1
  rw [HH.out.2.2.2.2.2.2.2.2.2.1] at hn1
  subst hn1
  have H1 := Lib.hid (Old.trans H0.out.2 hB1)
  clear hR1 hB1 hw0
  obtain ⟨w2, hw2⟩ : ∃ w2, w1.alloc (.cells (madeCells #[.int .u8 0] 20) 5) = w2 := ⟨_, rfl⟩
  have hR2 : Rd w2 (some ⟨w1.heap.size, 0, none⟩) 20 20 (zs 20) := by rw [← hw2]; exact HH.out.2.1 w1
  have hB2 : Old w w2 := by rw [← hw2]; exact H1.out.alloc _
  have H2 := Lib.hid (And.intro hR2 hB2)
  clear hR2 hB2
  go_wp2_with fail
  refine (HH.out.2.2.2.1 w2 _ _ _ H2.out.1).mono ?_
  rintro e w3 ⟨A3, n3, c3, rfl, hR3, hB3⟩
  have hn3 := hR3.1
  rw [HH.out.2.2.2.2.2.2.2.2.2.2.1] at hn3
  subst hn3
  have H3 := Lib.hid (Old.trans H2.out.2 hB3)
  clear hR3 hB3 hw2
  obtain ⟨w4, hw4⟩ : ∃ w4, (w3.alloc (.cells (madeCells #[.int .u8 0] 20) 5)).alloc (.cells #[.int .u8 109] 5 (1, 2)) = w4 := ⟨_, rfl⟩
  have hR4 : Rd w4 (some ⟨w3.heap.size, 0, none⟩) 20 20 (zs 20) := by rw [← hw4]; exact (HH.out.2.1 w3).below ((Old.refl _).alloc _)
  have hR4b : Rd w4 (some ⟨w3.heap.size + 1, 0, none⟩) 1 1 [109] := by
    rw [← hw4]
    have := Rd.of_blk (l := [109]) (fr := (1, 2)) (heap_alloc_new (w3.alloc (.cells (madeCells #[.int .u8 0] 20) 5)) (.cells #[.int .u8 109] 5 (1, 2))) (by decide)
    rwa [World.size_alloc] at this
  have hB4 : Old w w4 := by rw [← hw4]; exact (H3.out.alloc _).alloc _
  have kc4 := kc (w3.alloc (.cells (madeCells #[.int .u8 0] 20) 5)) #[.int .u8 109] 1 1
  rw [World.size_alloc] at kc4
  have H4 := Lib.hid (And.intro hR4 (And.intro hR4b hB4))
  clear hR4 hR4b hB4
  go_wp2_with fail
  refine (HH.out.2.2.2.2.1 w4 _ _ _ _ _ _ H4.out.1 H4.out.2.1 (HH.out.1.below H4.out.2.2) (by decide) (by decide)).mono ?_
  rintro e w5 ⟨A5, n5, c5, rfl, hR5, hB5⟩
  have hn5 := hR5.1
  rw [HH.out.2.2.2.2.2.2.2.2.2.2.2.1] at hn5
  have H5 := Lib.hid (And.intro hR5 (And.intro (Old.trans H4.out.2.2 hB5) hn5))
  clear hR5 hB5 hw4 hn5
  go_wp2_with fail
  refine (HH.out.2.2.2.2.2.1 w5 _ _ _ H5.out.1 (HH.out.1.below H5.out.2.1) (by have := H5.out.2.2; omega)).mono ?_
  rintro e w6 ⟨A6, n6, c6, rfl, hR6, hB6⟩
  have H6 := Lib.hid (And.intro hR6 (Old.trans H5.out.2.1 hB6))
  clear hR6 hB6
  obtain ⟨w7, hw7⟩ : ∃ w7, w6.alloc (.cells (madeCells #[.int .u8 0] 20) 5) = w7 := ⟨_, rfl⟩
  have hR7 : Rd w7 (some ⟨w6.heap.size, 0, none⟩) 20 20 (zs 20) := by rw [← hw7]; exact HH.out.2.1 w6
  have hB7 : Old w w7 := by rw [← hw7]; exact H6.out.2.alloc _
  have hB67 : Old w6 w7 := by rw [← hw7]; exact (Old.refl _).alloc _
  have H7 := Lib.hid (And.intro hR7 (And.intro hB7 hB67))
  clear hR7 hB7 hB67
  go_wp2_with fail
  refine (HH.out.2.2.2.2.2.2.1 w7 _ _ _ H7.out.1 (HH.out.1.below H7.out.2.1)).mono ?_
  rintro e w8 ⟨A8, n8, c8, rfl, hR8, hB8⟩
  have hs6 := (H6.out.1.below (Old.trans H7.out.2.2 hB8)).str
  have H8 := Lib.hid (And.intro hR8 (Old.trans H7.out.2.1 hB8))
  clear hR8 hB8 hw7
  obtain ⟨w9, hw9⟩ : ∃ w9, w8.alloc (.cells (madeCells #[.int .u8 0] 20) 5) = w9 := ⟨_, rfl⟩
  have hR9 : Rd w9 (some ⟨w8.heap.size, 0, none⟩) 20 20 (zs 20) := by rw [← hw9]; exact HH.out.2.1 w8
  have hB89 : Old w8 w9 := by rw [← hw9]; exact (Old.refl _).alloc _
  have H9 := Lib.hid (And.intro hR9 (And.intro (Old.trans H8.out.2 hB89) hB89))
  clear hR9 hB89
  go_wp2_with fail
  refine (HH.out.2.2.2.2.2.2.2.1 w9 _ _ _ _ _ _ H9.out.1 (H8.out.1.below H9.out.2.2) (HH.out.1.below H9.out.2.1)).mono ?_
  rintro e w10 ⟨r, rfl, hr, hB10⟩
  have hrt : r = true := hr.2 HH.out.2.2.2.2.2.2.2.2.1
  subst hrt
  have H10 := Lib.hid (Old.trans H9.out.2.1 hB10)
  clear hr hB10 hw9
  go_wp2_with fail
  go_ret
  exact ⟨rfl, H10.out⟩
end Go.Proofs.YtddemlajfbagdaaDoor
namespace Go.Proofs.YtddemlajfbagdaaDoor
set_option maxRecDepth 100000
open Go.RowKit

def sizeF (n : Int) : Int := if 200 < n ∧ n ≤ 65536 then n % 201 else n
theorem sizeF_in (n : Int) : sizeF n ≤ 200 ∨ 65536 < sizeF n := by unfold sizeF; split <;> omega
theorem sizeF_lo (n : Int) (h : -9223372036854775808 ≤ n) : -9223372036854775808 ≤ sizeF n := by unfold sizeF; split <;> omega
set_option maxHeartbeats 2000000 in
theorem size8_any (n : Int) (w : World) : Calls Tryd.prog 10 #[.int .i64 n] w fun e w' => e = .returned (.int .i64 (sizeF n)) ∧ w = w' := by
  unfold sizeF
  by_cases h1 : 200 < n
  · have b1 : decide (n > 200) = true := decide_eq_true h1
    have c1 : n > 200 := h1
    by_cases h2 : n ≤ 65536
    · rw [if_pos ⟨h1, h2⟩]
      have b2 : decide (n ≤ 65536) = true := decide_eq_true h2
      have hm : Int.tmod n 201 = n % 201 := Int.tmod_eq_emod_of_nonneg (by omega)
      have hw : IntKind.i64.wrap (n % 201) = n % 201 := IntWalk.i64_in _ (by omega)
      go_enter Tryd.func10, Tryd.ntmps10
      go_wp2_with fail
      go_ret
      exact ⟨rfl, rfl⟩
    · rw [if_neg (fun h => h2 h.2)]
      have b2 : decide (n ≤ 65536) = false := decide_eq_false h2
      go_enter Tryd.func10, Tryd.ntmps10
      go_wp2_with fail
      go_ret
      exact ⟨rfl, rfl⟩
  · rw [if_neg (fun h => h1 h.1)]
    have b1 : decide (n > 200) = false := decide_eq_false h1
    have c1 : ¬ n > 200 := h1
    go_enter Tryd.func10, Tryd.ntmps10
    go_wp2_with fail
    go_ret
    exact ⟨rfl, rfl⟩
set_option maxHeartbeats 8000000 in
theorem padInfo_any (kind n : Int) (A : Option Addr) (m c : Nat) (t : List UInt8) (w : World) (hr : Rd w A m c t) (hK : KAt w) (hn : -9223372036854775808 ≤ n) :
    Calls Tryd.prog 3 #[.int .i64 kind, .int .i64 n, .slice A m c] w (LawRes w) := by
  have HS := Lib.hid (fun w' hw => short_any A m c 220 t w' (hr.below (w' := w') hw) (by omega))
  have hs := hr.short (n := 220)
  have hm : min m 220 ≤ 220 := Nat.min_le_right _ _
  generalize min m 220 = m2 at *
  generalize t.take 220 = t2 at *
  have hsz := size8_any n
  have h1 := sizeF_in n
  have h2 := sizeF_lo n hn
  generalize sizeF n = n2 at *
  have hf1 := fun W hr => info_any kind A m2 c t2 W hr
  have hf2 := fun W hr => rinfo_any kind A m2 c t2 W hr
  have hf3 := fun W hr => sign1_any n2 A m2 c t2 W hr h1 h2 (by omega)
  have hf4 := fun W hr => rsign1_any n2 A m2 c t2 W hr h1 h2 (by omega)
  obtain ⟨l1, b1, hI⟩ : ∃ l b, infoF kind t2 = (l, b) := ⟨_, _, rfl⟩
  obtain ⟨l2, r2, hS⟩ : ∃ l b, sign1F n2 t2 = (l, b) := ⟨_, _, rfl⟩
  rw [hI] at hf1 hf2
  rw [hS] at hf3 hf4
  have hbe := padbegun_any w hK
  have HH := Lib.hid (And.intro hbe (And.intro hsz (And.intro hs (And.intro hf1 (And.intro hf2 (And.intro hf3 hf4))))))
  clear hbe hsz hs hf1 hf2 hf3 hf4 hI hS hr hK hn h1 h2 hm
  go_enter Tryd.func3, Tryd.ntmps3
  go_wp2_with fail
  refine HH.out.1.mono ?_
  rintro e w1 ⟨rfl, hB1⟩
  have H1 := Lib.hid hB1
  clear hB1
  go_wp2_with fail
  refine (HH.out.2.1 w1).mono ?_
  rintro e w' ⟨rfl, rfl⟩
  go_wp2_with fail
  refine (HS.out _ H1.out).mono ?_
  rintro e w' ⟨rfl, rfl⟩
  go_wp2_with fail
  refine (HH.out.2.2.2.1 _ (HH.out.2.2.1.below H1.out)).mono ?_
  rintro e w2 ⟨A2, m3, c2, rfl, hR2, hB2⟩
  have H2 := Lib.hid (And.intro hR2 (Old.trans H1.out hB2))
  clear hR2 hB2
  go_wp2_with fail
  refine (HH.out.2.2.2.2.1 _ (HH.out.2.2.1.below H2.out.2)).mono ?_
  rintro e w3 ⟨A3, m4, c3, rfl, hR3, hB3⟩
  have H3 := Lib.hid (And.intro (H2.out.1.below hB3) (And.intro hR3 (Old.trans H2.out.2 hB3)))
  clear hR3 hB3
  go_wp2_with fail
  refine (HH.out.2.2.2.2.2.1 _ (HH.out.2.2.1.below H3.out.2.2)).mono ?_
  rintro e w4 ⟨A4, m5, c4, rfl, hR4, hB4⟩
  have H4 := Lib.hid (And.intro (H3.out.1.below hB4) (And.intro (H3.out.2.1.below hB4) (And.intro hR4 (Old.trans H3.out.2.2 hB4))))
  clear hR4 hB4
  go_wp2_with fail
  refine (HH.out.2.2.2.2.2.2 _ (HH.out.2.2.1.below H4.out.2.2.2)).mono ?_
  rintro e w5 ⟨A5, m6, c5, rfl, hR5, hB5⟩
  have s1 := (H4.out.1.below hB5).str
  have s2 := (H4.out.2.1.below hB5).str
  have s3 := (H4.out.2.2.1.below hB5).str
  have s4 := hR5.str
  have H5 := Lib.hid (Old.trans H4.out.2.2.2 hB5)
  clear hR5 hB5
  go_wp2_with fail
  go_ret
  exact ⟨rfl, H5.out⟩
set_option maxHeartbeats 8000000 in
theorem padDec1_any (A : Option Addr) (m c : Nat) (t : List UInt8) (w : World) (hr : Rd w A m c t) (hK : KAt w) :
    Calls Tryd.prog 7 #[.slice A m c] w (LawRes w) := by
  have HS := Lib.hid (fun w' hw => short_any A m c 200 t w' (hr.below (w' := w') hw) (by omega))
  have hs := hr.short (n := 200)
  have hm : min m 200 ≤ 200 := Nat.min_le_right _ _
  generalize min m 200 = m2 at *
  generalize t.take 200 = t2 at *
  have hf1 := fun W hr => dec1_any A m2 c t2 W hr (by omega)
  have hf2 := fun W hr => rdec1_any A m2 c t2 W hr (by omega)
  obtain ⟨l1, b1, hI⟩ : ∃ l b, dec1F t2 = (l, b) := ⟨_, _, rfl⟩
  rw [hI] at hf1 hf2
  have hbe := padbegun_any w hK
  have HH := Lib.hid (And.intro hbe (And.intro hs (And.intro hf1 hf2)))
  clear hbe hs hf1 hf2 hI hr hK hm
  go_enter Tryd.func7, Tryd.ntmps7
  go_wp2_with fail
  refine HH.out.1.mono ?_
  rintro e w1 ⟨rfl, hB1⟩
  have H1 := Lib.hid hB1
  clear hB1
  go_wp2_with fail
  refine (HS.out _ H1.out).mono ?_
  rintro e w' ⟨rfl, rfl⟩
  go_wp2_with fail
  refine (HH.out.2.2.1 _ (HH.out.2.1.below H1.out)).mono ?_
  rintro e w2 ⟨A2, m3, c2, rfl, hR2, hB2⟩
  have H2 := Lib.hid (And.intro hR2 (Old.trans H1.out hB2))
  clear hR2 hB2
  go_wp2_with fail
  refine (HH.out.2.2.2 _ (HH.out.2.1.below H2.out.2)).mono ?_
  rintro e w3 ⟨A3, m4, c3, rfl, hR3, hB3⟩
  have s1 := (H2.out.1.below hB3).str
  have s2 := hR3.str
  have H3 := Lib.hid (Old.trans H2.out.2 hB3)
  clear hR3 hB3
  go_wp2_with fail
  go_ret
  exact ⟨rfl, H3.out⟩
end Go.Proofs.YtddemlajfbagdaaDoor
namespace Go.Proofs.YtddemlajfbagdaaDoor
set_option maxRecDepth 100000
open Go.RowKit

def OPRes (w : World) (r : List UInt8 × Int) (e : Ending) (w' : World) : Prop := ∃ A n c, e = .returned (.tuple #[.slice A n c, .int .i64 r.2]) ∧ Own w' w.heap.size (.slice A n c) r.1 ∧ Old w w'
set_option maxHeartbeats 16000000 in
theorem encpo_any (kind bits : Int) (A1 A2 : Option Addr) (m1 c1 m2 c2 : Nat) (hash salt : List UInt8) (w : World) (h1 : Rd w A1 m1 c1 hash) (h2 : Rd w A2 m2 c2 salt) (hK : KAt w) (hb : bits ≤ 1500 ∨ 65536 < bits) (hm2 : m2 ≤ 1000) :
    Calls Tryd.prog 20 #[.int .i64 kind, .int .i64 bits, .slice A1 m1 c1, .slice A2 m2 c2] w (OPRes w (encPF kind bits hash salt)) := by
  have hl1 := h1.1
  have hl2 := h2.1
  have hps := pss_any kind bits A1 m1 c1 m2 w (by omega)
  unfold encPF
  rw [← hl1, ← hl2]
  by_cases d1 : (pssF kind bits m1 m2).2 = 0
  · rw [if_pos d1]
    obtain ⟨N, n, b, hN, hN1, hN64, hm1, rfl, hB1, hB2, hp, hn, hb8, hb9⟩ := pssF_ok kind bits m1 m2 d1
    rw [hp] at hps ⊢
    rw [hN, Int.toNat_natCast, Int.toNat_natCast, Int.toNat_natCast]
    have hn188 : n ≤ 188 := by omega
    have hki := hsize_in kind (by omega)
    obtain ⟨w1, hw1⟩ : ∃ w1, w.alloc (.cells (madeCells #[.int .u8 0] 8) 5) = w1 := ⟨_, rfl⟩
    have ho1 : Own w1 w.heap.size (.slice (some ⟨w.heap.size, 0, none⟩) 8 8) (zs 8) := by rw [← hw1]; exact Own.made w 8 (by decide)
    have hO1 : Old w w1 := by rw [← hw1]; exact (Old.refl w).alloc _
    obtain ⟨w2, hw2⟩ : ∃ w2, w1.alloc (.cells #[.slice (some ⟨w.heap.size, 0, none⟩) 8 8, .slice A1 m1 c1, .slice A2 m2 c2] 22) = w2 := ⟨_, rfl⟩
    have hO2' : Old w1 w2 := by rw [← hw2]; exact (Old.refl w1).alloc _
    have hO2 : Old w w2 := Old.trans hO1 hO2'
    have hP := of_res_all kind (some ⟨w1.heap.size, 0, none⟩) 3 3 [zs 8, hash, salt] w2 (rd_three (by rw [← hw2]; exact Blk.new _ _ _) (ho1.rd.below hO2') (h1.below hO2) (h2.below hO2)) (by simp [zs_len]; omega) (hK.below hO2)
    obtain ⟨HV, hHV⟩ : ∃ H, pssH (rof kind) hash salt = H := ⟨_, rfl⟩
    rw [show [zs 8, hash, salt].flatten = List.replicate 8 0 ++ hash ++ salt by simp [zs], show rof kind (List.replicate 8 0 ++ hash ++ salt) = HV from hHV] at hP
    have hHl : HV.length = N := by rw [← hHV]; unfold pssH; rw [rof_len kind hki _ (by simp; omega), hN]; rfl
    obtain ⟨a1, ha1⟩ : ∃ a, (n : Int) - (N : Int) = a := ⟨_, rfl⟩
    have ha1w : IntKind.i64.wrap a1 = a1 := IntWalk.i64_in _ (by omega)
    obtain ⟨a2, ha2⟩ : ∃ a, a1 - 2 = a := ⟨_, rfl⟩
    have ha2w : IntKind.i64.wrap a2 = a2 := IntWalk.i64_in _ (by omega)
    obtain ⟨k, hk⟩ := Int.eq_ofNat_of_zero_le (show 0 ≤ a2 - (m2 : Int) by omega)
    have hkw : IntKind.i64.wrap (k : Int) = (k : Int) := IntWalk.i64_in _ (by omega)
    obtain ⟨e8, he8⟩ : ∃ a, 8 * (n : Int) = a := ⟨_, rfl⟩
    have he8w : IntKind.i64.wrap e8 = e8 := IntWalk.i64_in _ (by omega)
    obtain ⟨t, ht⟩ := Int.eq_ofNat_of_zero_le (show 0 ≤ e8 - (b : Int) by omega)
    have htw : IntKind.i64.wrap (t : Int) = (t : Int) := IntWalk.i64_in _ (by omega)
    have hshr := fun T => shr_top b n t T (by omega) (by omega)
    obtain ⟨tp, htp⟩ : ∃ t, topB b n = t := ⟨_, rfl⟩
    rw [htp] at hshr
    have hmk8 : ∀ w : World, (Instr.makeSlice 22 (.int .i64 8) (.int .i64 8)).run Tryd.prog w = .ok (.slice (some ⟨w.heap.size, 0, none⟩) 8 8) (w.alloc (.cells (madeCells #[.int .u8 0] 8) 5)) := Tryd.prog_make 8 (by omega)
    have hmkk : ∀ w : World, (Instr.makeSlice 22 (.int .i64 (k : Int)) (.int .i64 (k : Int))).run Tryd.prog w = .ok (.slice (some ⟨w.heap.size, 0, none⟩) k k) (w.alloc (.cells (madeCells #[.int .u8 0] k) 5)) := Tryd.prog_make k (by omega)
    have hkN : k = n - N - 2 - salt.length := by omega
    have hall : N + k + m2 + 2 = n := by omega
    have hpm := fun A3 c3 A4 n4 c4 W (l : List UInt8) (hr3 : Rd W A3 N c3 HV) (hr4 : Rd W A4 n4 c4 l) (h1 : 1 ≤ n4) (h2 : n4 ≤ 200) (hK : KAt W) => pmask_any kind hki A3 A4 N c3 n4 c4 HV l W hr3 hr4 (by omega) (by omega) h1 hK
    have hml := fun j => mask_len kind hki HV (by omega) j
    have hT : encP N (rof kind) (mask kind) b n hash salt = headAnd (xorB ((zs k ++ [1]) ++ salt) (mask kind HV (k + 1 + m2))) tp ++ HV ++ [188] := by
      unfold encP
      rw [hHV, htp]
      have hdb : pssDb N n salt = (zs k ++ [1]) ++ salt := by unfold pssDb zs; rw [← hkN]; simp
      rw [hdb]
      have hdl : ((zs k ++ [1]) ++ salt).length = k + 1 + m2 := by simp only [List.length_append, zs_len, List.length_singleton]; omega
      rw [hdl]
    rw [hT]
    have HS := Lib.hid (And.intro hps (And.intro hP (And.intro h2 (And.intro hK (And.intro hO2 (And.intro hpm hml))))))
    have HA := Lib.hid (And.intro hall (And.intro hn188 (And.intro hl2 (And.intro hHl (And.intro hN1 hN64)))))
    clear hps hP h1 h2 hK hHl hO1 hO2 hO2' ho1 hN hki hN1 hN64 hm1 hB1 hB2 hp hn hb8 hb9 hn188 hl1 hl2 hb hm2 d1 hHV hT hpm hml hall hkN htp
    go_enter Tryd.func20, Tryd.ntmps20
    go_wp2_with fail
    refine HS.out.1.mono ?_
    rintro e w' ⟨rfl, rfl⟩
    go_wp2_with fail
    refine HS.out.2.1.mono ?_
    rintro e w3 ⟨A3, n3, c3, rfl, hR3, hB3⟩
    have hn3 := hR3.len
    rw [HA.out.2.2.2.1] at hn3
    subst hn3
    have hz3 : w.heap.size ≤ w2.heap.size := HS.out.2.2.2.2.1.size
    obtain ⟨w4, hw4⟩ : ∃ w4, w3.alloc (.cells (madeCells #[.int .u8 0] k) 5) = w4 := ⟨_, rfl⟩
    have ho4 : Own w4 w3.heap.size (.slice (some ⟨w3.heap.size, 0, none⟩) k k) (zs k) := by rw [← hw4]; exact Own.made w3 k (by have := HA.out; unfold maxLen; omega)
    have hO34 : Old w3 w4 := by rw [← hw4]; exact (Old.refl w3).alloc _
    have hO3 : Old w w3 := Old.trans HS.out.2.2.2.2.1 hB3
    have H4 := Lib.hid (And.intro ho4 (And.intro hR3.rd (And.intro (show Old w3 w4 from hO34) (show Old w w3 from hO3))))
    clear hR3 hB3 hz3 ho4 hO34 hO3 hw1 hw2
    go_wp2_with (first | (at_builtin; refine wp_app_lit (.tmp 43) (.tmp 44) w3.heap.size _ _ H4.out.1 H4.out.2.2.1.size [1] (by have := HA.out; simp [zs_len]; omega) (by simp) rfl rfl rfl rfl rfl rfl ?_; intro A5 n5 c5 w5 hn5 hG5; have H5 := Lib.hid (And.intro hG5.own (show Old w3 w5 from Below.trans (H4.out.2.2.1.alloc _) hG5.below)); clear hG5) | (at_builtin; refine wp_app2 (.tmp 45) (.tmp 46) w3.heap.size (.slice A5 n5 c5) _ H5.out.1 H5.out.2.size A2 m2 c2 salt (HS.out.2.2.1.below (Old.trans H4.out.2.2.2 H5.out.2)) (by have := HA.out; simp [zs_len]; omega) rfl rfl rfl rfl ?_; intro A6 n6 c6 w6 hn6 hG6; have H6 := Lib.hid (And.intro hG6.own (show Old w3 w6 from Below.trans H5.out.2 hG6.below)); clear hG6))
    have hn6l := H6.out.1.len
    have hdl : ((zs k ++ [1]) ++ salt).length = k + 1 + m2 := by rw [List.length_append, List.length_append, zs_len, ← HA.out.2.2.1]; rfl
    rw [hdl] at hn6l
    clear hdl
    clear hn6
    subst hn6l
    have HK6 : Old w w6 := Old.trans H4.out.2.2.2 H6.out.2
    have HK := Lib.hid HK6
    clear HK6
    refine (HS.out.2.2.2.2.2.1 A3 c3 A6 _ c6 w6 _ (H4.out.2.1.below H6.out.2) H6.out.1.rd (by omega) (by have := HA.out; omega) (HS.out.2.2.2.1.below HK.out)).mono ?_
    obtain ⟨XL, hXL⟩ : ∃ X, xorB (zs k ++ [1] ++ salt) (mask kind HV (k + 1 + m2)) = X := ⟨_, rfl⟩
    rw [hXL]
    have hXl : XL.length = k + 1 + m2 := by
      rw [← hXL, xorB_len _ _ (by rw [HS.out.2.2.2.2.2.2, ← H6.out.1.len]; exact Nat.le_refl _), ← H6.out.1.len]
    rintro e w7 ⟨A7, n7, c7, rfl, hR7, hB7⟩
    have hn7 := hR7.len
    rw [hXl] at hn7
    cases XL with
    | nil => exact absurd hXl (by simp only [List.length_nil]; omega)
    | cons x0 xr =>
      clear hXl
      obtain ⟨g, cg, e1⟩ := hR7.form (by intro e; injection e with _ e2 _; omega)
      injection e1 with e1 e2 e3
      subst e1 e3
      clear e2
      have h0m : 0 < n7 := by omega
      have hrd7 := hR7.rd
      have yq := hR7.cell 0 x0 rfl
      have fq := hR7.frozen 0
      have hset := hR7.set_ 0 (x0 &&& tp) h0m
      have hgb := hR7.lt (g := g) rfl
      have hnn : n7 ≤ 200 := by have := HA.out; omega
      have H7 := Lib.hid (And.intro hR7 (And.intro (show Old w6 w7 from hB7) (And.intro hgb hnn)))
      clear hR7 hB7 hrd7 hset hgb hnn hn7
      go_wp2_with fail
      refine region_oldZ 10 (by kernel_rfl) (fun wd hHeld hSz => ?_)
      have HSz := Lib.hid hSz
      clear hSz
      have hOd := hHeld
      refine takeZ (z := 10) (by kernel_rfl) (i := 0) (v := ?_) rfl (by kernel_rfl) (by kernel_rfl) (by kernel_rfl) (fun _ _ _ h => h) (Or.inl ⟨by rfl, ?_⟩) hHeld ?_
      rotate_left
      focus (intro wq hSw; clear hSw; go_simp; try with_reducible rfl)
      try simp only [Act.put, List.setIfInBounds_toArray, List.set_cons_zero, List.set_cons_succ]
      refine takeZ (z := 10) (by kernel_rfl) (i := 1) (v := ?_) rfl (by kernel_rfl) (by kernel_rfl) (by kernel_rfl) (fun _ _ _ h => h) (Or.inl ⟨by rfl, ?_⟩) hHeld ?_
      rotate_left
      focus (intro wq hSw; clear hSw; go_simp; try with_reducible rfl)
      try simp only [Act.put, List.setIfInBounds_toArray, List.set_cons_zero, List.set_cons_succ]
      refine takeZ (z := 10) (by kernel_rfl) (i := 2) (v := ?_) rfl (by kernel_rfl) (by kernel_rfl) (by kernel_rfl) (fun _ _ _ h => h) (Or.inl ⟨by rfl, ?_⟩) hHeld ?_
      rotate_left
      focus (intro wq hSw; have hy := (H7.out.1.below hSw).cell 0 x0 rfl; clear hSw; go_simp; try with_reducible rfl)
      try simp only [Act.put, List.setIfInBounds_toArray, List.set_cons_zero, List.set_cons_succ]
      refine takeZ (z := 10) (by kernel_rfl) (i := 3) (v := ?_) rfl (by kernel_rfl) (by kernel_rfl) (by kernel_rfl) (fun _ _ _ h => h) (Or.inl ⟨by rfl, ?_⟩) hHeld ?_
      rotate_left
      focus (intro wq hSw; clear hSw; go_simp; try with_reducible rfl)
      try simp only [Act.put, List.setIfInBounds_toArray, List.set_cons_zero, List.set_cons_succ]
      refine takeZ (z := 10) (by kernel_rfl) (i := 4) (v := ?_) rfl (by kernel_rfl) (by kernel_rfl) (by kernel_rfl) (fun _ _ _ h => h) (Or.inl ⟨by rfl, ?_⟩) hHeld ?_
      rotate_left
      focus (intro wq hSw; clear hSw; go_simp; try with_reducible rfl)
      try simp only [Act.put, List.setIfInBounds_toArray, List.set_cons_zero, List.set_cons_succ]
      refine takeZ (z := 10) (by kernel_rfl) (i := 5) (v := ?_) rfl (by kernel_rfl) (by kernel_rfl) (by kernel_rfl) (fun _ _ _ h => h) (Or.inl ⟨by rfl, ?_⟩) hHeld ?_
      rotate_left
      focus (intro wq hSw; clear hSw; go_simp; try with_reducible rfl)
      try simp only [Act.put, List.setIfInBounds_toArray, List.set_cons_zero, List.set_cons_succ]
      refine takeZ (z := 10) (by kernel_rfl) (i := 6) (v := ?_) rfl (by kernel_rfl) (by kernel_rfl) (by kernel_rfl) (fun _ _ _ h => h) (Or.inl ⟨by rfl, ?_⟩) hHeld ?_
      rotate_left
      focus (intro wq hSw; clear hSw; go_simp; try with_reducible rfl)
      try simp only [Act.put, List.setIfInBounds_toArray, List.set_cons_zero, List.set_cons_succ]
      refine takeZ (z := 10) (by kernel_rfl) (i := 7) (v := ?_) rfl (by kernel_rfl) (by kernel_rfl) (by kernel_rfl) (fun _ _ _ h => h) (Or.inl ⟨by rfl, ?_⟩) hHeld ?_
      rotate_left
      focus (intro wq hSw; clear hSw; go_simp; try with_reducible rfl)
      try simp only [Act.put, List.setIfInBounds_toArray, List.set_cons_zero, List.set_cons_succ]
      refine takeZ (z := 10) (by kernel_rfl) (i := 8) (v := ?_) rfl (by kernel_rfl) (by kernel_rfl) (by kernel_rfl) (fun _ _ _ h => h) (Or.inl ⟨by rfl, ?_⟩) hHeld ?_
      rotate_left
      focus (intro wq hSw; clear hSw; go_simp; try with_reducible rfl)
      try simp only [Act.put, List.setIfInBounds_toArray, List.set_cons_zero, List.set_cons_succ]
      refine takeZ (z := 10) (by kernel_rfl) (i := 9) (v := ?_) rfl (by kernel_rfl) (by kernel_rfl) (by kernel_rfl) (fun _ _ _ h => h) (Or.inl ⟨by rfl, ?_⟩) hHeld ?_
      rotate_left
      focus (intro wq hSw; clear hSw; go_simp; try with_reducible rfl)
      try simp only [Act.put, List.setIfInBounds_toArray, List.set_cons_zero, List.set_cons_succ]
      refine wpAnyT_ready (rs := [10]) (by kernel_rfl) (by simp) ?_
      refine consZl rfl (fun K hK => ?_) AllReadyT.nil
      have hy := (H7.out.1.below hOd).frozen 0
      have hy0 := (H7.out.1.below hOd).cell 0 x0 rfl
      go_simp
      refine hK.out _ _ ?_
      clear hK K
      try simp only [Act.put, List.setIfInBounds_toArray, List.set_cons_zero, List.set_cons_succ]
      refine wpAnyT_done (by kernel_rfl) ?_ _
      refine NoPanic.normal ?_
      try simp only [Exit.then]
      have HX := H7.out.2.1
      have ho8 := (H7.out.1.below hOd).set_ 0 (x0 &&& tp) h0m
      have hT8 := ((Turn.refl [g] wd).setCell (p := ⟨g, 0, none⟩) (.inl (by simp)) (B (x0 &&& tp)))
      obtain ⟨w8, hw8⟩ : ∃ w8, wd.setCell ⟨g, 0, none⟩ (B (x0 &&& tp)) = w8 := ⟨_, rfl⟩
      rw [hw8] at ho8 hT8
      have hO8 : Old w6 w8 := below_turn (Old.trans HX hOd) hT8 (fun x hx => by simp at hx; rw [hx]; exact H7.out.2.2.1.1) (Old.trans HX hOd).size
      have H8 := Lib.hid (And.intro (show Own w8 w6.heap.size (.slice (some ⟨g, 0, none⟩) n7 c7) ((x0 &&& tp) :: xr) from ho8) (And.intro hO8 (Rd.below H4.out.2.1 (Old.trans H6.out.2 hO8))))
      clear ho8 hT8 hO8 HX hHeld hOd HSz yq fq hy hy0
      try simp only [Exit.then]
      rw [hw8]
      clear hw8
      go_wp2_with (first | (at_builtin; refine wp_app2 (.tmp 59) (.tmp 60) w6.heap.size _ _ H8.out.1 H8.out.2.1.size A3 n3 c3 HV H8.out.2.2 (by have h1 := HA.out; have h2 := H7.out.2.2.2; rw [← H8.out.1.len]; omega) rfl rfl rfl rfl ?_; intro A9 n9 c9 w9 hn9 hG9; have H9 := Lib.hid (And.intro hG9.own (show Old w6 w9 from Below.trans H8.out.2.1 hG9.below)); clear hG9) | (at_builtin; refine wp_app_lit (.tmp 61) (.tmp 62) w6.heap.size (.slice A9 n9 c9) _ H9.out.1 H9.out.2.size [188] (by have h1 := HA.out; have h2 := H7.out.2.2.2; rw [List.length_append, ← H8.out.1.len]; omega) (by simp) rfl rfl rfl rfl rfl rfl ?_; intro B1 p1 q1 w10 hp1 hG10; have H10 := Lib.hid (And.intro hG10.own (show Old w6 w10 from Below.trans (H9.out.2.alloc _) hG10.below)); clear hG10))
      refine bodyPost_ret (results_tmp2 rfl _ _ _) rfl ?_
      refine ⟨_, _, _, rfl, ?_, Old.trans HK.out H10.out.2⟩
      show Own _ _ _ (headAnd (xorB (zs k ++ [1] ++ salt) (mask kind HV (k + 1 + m2))) tp ++ HV ++ [188])
      rw [hXL]
      exact H10.out.1.mono (by have := HK.out.size; omega)
  · rw [if_neg d1]
    obtain ⟨a, r, hp⟩ : ∃ a r, pssF kind bits m1 m2 = (a, r) := ⟨_, _, rfl⟩
    rw [hp] at hps d1 ⊢
    have b1 : (r != 0) = true := by simpa using d1
    have HS := Lib.hid hps
    clear hps hp hl1 hl2 h1 h2 hK
    go_enter Tryd.func20, Tryd.ntmps20
    go_wp2_with fail
    refine HS.out.mono ?_
    rintro e w' ⟨rfl, rfl⟩
    go_wp2_with fail
    refine bodyPost_ret (results_tmp2 rfl _ _ _) rfl ?_
    exact ⟨none, 0, 0, rfl, Own.nil _ _, Old.refl _⟩
end Go.Proofs.YtddemlajfbagdaaDoor
