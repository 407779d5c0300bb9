/-
  blockfs: begun.
-/
import Derived.Test.YtomngfihaohgdaaDoorFs10
import Derived.Lib.SlBytesConst
namespace Go.Proofs.YtomngfihaohgdaaDoor
set_option maxRecDepth 100000
open Go.RowKit

theorem rd_oneX (w : World) (x : UInt8) (mk : Nat × Nat) : Rd (w.alloc (.cells #[.int .u8 x.toNat] 5 mk)) (some ⟨w.heap.size, 0, none⟩) 1 1 [x] := by
  refine ⟨rfl, Nat.le_refl _, by unfold maxLen; omega, .inr ⟨_, _, rfl, by simp, fun k y hk => ?_⟩⟩
  rw [World.cell?_alloc_mark]
  cases k with
  | zero => simp at hk; subst hk; rfl
  | succ k => simp at hk
def lX : List UInt8 := full [120] 256
theorem lX_len : lX.length = 256 := by unfold lX full; rw [if_neg (by omega), if_neg (by simp)]; exact fullTo_len _ _ _
theorem lX_9 : lX[9]? = some 120 := by decide
theorem neVol (w : World) (a : Addr) : (binOp .eql 25 (.pointer (some a)) (.pointer none)).run Tryd.prog w = .ok (.bool false) w := by kernel_rfl
theorem neVol' (w : World) (a : Addr) : (binOp .neq 25 (.pointer (some a)) (.pointer none)).run Tryd.prog w = .ok (.bool true) w := by kernel_rfl
theorem dk_lost {d L : Nat} {s : Dsk} {w : World} (h : DkAt w d L s) :
    Calls Tryd.prog 15 #[.pointer (some ⟨d, 0, none⟩), .nilFunc] w fun e w' =>
      ∃ d' L', e = .returned (.pointer (some ⟨d', 0, none⟩)) ∧ DkAt w' d' L' (s.crash fun _ => false) ∧ w.heap.size ≤ d' ∧ w.heap.size ≤ L' ∧ Below w.heap.size w w' := by
  obtain ⟨xs, h⟩ := h
  refine (crash_lost d L xs s w h).mono ?_
  rintro e w' ⟨rfl, ⟨ys, hy⟩, hb⟩
  exact ⟨_, _, rfl, ⟨ys, hy⟩, by omega, Nat.le_refl _, hb⟩
theorem fmt_fok {s : Dsk} {k : Nat} (h : FOk s k) : FOk s.fmt.2 (k + 4) := by
  have h1 := sy_fok h
  have h2 := sy_fok h1
  have h3 := wr_fok h2 0 (headB 0)
  have h4 := sy_fok h3
  unfold Dsk.fmt
  split
  · exact h1.mono (by omega)
  · split
    · exact h2.mono (by omega)
    · split
      · exact h3.mono (by omega)
      · exact h4
theorem one_put (w : World) (g P : Nat) (hP : Blk w P 42 #[.int .i64 3, .slice (some ⟨g, 0, none⟩) 256 256]) (hr : Rd w (some ⟨g, 0, none⟩) 256 256 lX) : PutsAt w P [⟨3, some ⟨g, 0, none⟩, 256, 256, lX⟩] := by
  refine ⟨fun k p hk => ?_, hP.lt⟩
  cases k with
  | zero =>
    simp at hk
    subst hk
    have c0 := hP.cell 0
    have c1 := hP.cell 1
    simp at c0 c1
    exact ⟨by simpa using c0, by simpa using c1, hr⟩
  | succ k => simp at hk
set_option maxHeartbeats 1000000 in
theorem begun_any (w : World) (hK : KAt w) : Calls Tryd.prog 9 #[] w fun e w' => e = .returned (.bool true) ∧ Below w.heap.size w w' := by
  have hN := new_in 32 (by omega) (by omega) w
  rw [show ((32 : Nat) : Int) = 32 from rfl] at hN
  have hkl := hK.1
  obtain ⟨X, hX⟩ : ∃ X, w.heap.size = X := ⟨_, rfl⟩
  rw [hX] at hN hkl
  have HK := Lib.hid hK
  clear hK
  go_enter Tryd.func9, Tryd.ntmps9
  go_wp2_with fail
  refine hN.mono ?_
  rintro e w1 ⟨rfl, hA1, hb1⟩
  obtain ⟨s0, hs0⟩ : ∃ s0, Dsk.new 32 = s0 := ⟨_, rfl⟩
  have hz0 := zeroD_new 32
  have hn0 := new_n 32
  have hf0 := new_fok 32
  have hu0 : (Dsk.new 32).fused = false ∧ (Dsk.new 32).dead = false := ⟨rfl, rfl⟩
  rw [hs0] at hA1 hz0 hn0 hf0 hu0
  obtain ⟨ok1, s1, hs1⟩ : ∃ ok1 s1, s0.fmt = (ok1, s1) := ⟨_, _, rfl⟩
  have hfc := fmt_cases hz0 (by omega) (by omega) hs1
  have hD1 : DkAt w1 (X + 1) X s0 := ⟨_, hA1⟩
  have hf1 := format_any (X + 1) X s0 w1 hD1 (by omega) (by omega) hu0.2 hf0 (fun i hi => (hz0 i hi).1) (HK.out.below (by rw [hX]; exact hb1))
  rw [hs1] at hf1
  obtain ⟨k1, k2, k3⟩ := hfc.2.2.2 hu0.1 hu0.2
  subst k1
  have hfk := fmt_fok hf0
  rw [hs1] at hfk
  have hg1 := hfc.2.1 rfl
  rw [hn0] at hg1
  have hn1 : s1.n = 32 := hfc.1.trans hn0
  simp only [if_true] at hf1
  have H1 := Lib.hid (And.intro hD1 (And.intro (HK.out.below (by rw [hX]; exact hb1)) (And.intro hb1 (And.intro hg1 (And.intro hn1 (And.intro k2 (And.intro k3 hfk)))))))
  clear hfk hN hA1 hb1 hs0 hz0 hn0 hf0 hu0 hs1 hfc hD1 k2 k3 hg1 hn1
  go_wp2_with fail
  refine hf1.mono ?_
  rintro e w2 ⟨rfl, hD2, hT2⟩
  have hK2 := H1.out.2.1.beside H1.out.1 hT2
  have hm2 := mount_good (X + 1) X s1 0 _ w2 hD2 H1.out.2.2.2.1 (by omega) H1.out.2.2.2.2.2.1 hK2
  rw [H1.out.2.2.2.2.1] at hm2
  have hb2 := below_turn H1.out.2.2.1 hT2 (by simp) (by have := H1.out.2.2.1.size; omega)
  have H2 := Lib.hid (And.intro hD2 (And.intro hK2 hb2))
  clear hf1 hD2 hT2 hK2 hb2
  go_wp2_with fail
  refine hm2.mono ?_
  rintro e w3 ⟨v, rfl, hv3, hV3, hb3⟩
  have hX2 := H2.out.2.2.size
  have H3 := Lib.hid (And.intro (H2.out.1.below hb3) (And.intro (H2.out.2.1.below hb3) (And.intro (H2.out.2.2.trans (hb3.mono (by rw [← hX]; exact hX2))) (And.intro hV3 (show X ≤ v by omega)))))
  clear hm2 hb3 hV3
  have kc := fun (w : World) (C : Array Value) (n c : Nat) => Lib.run_convert_bytes_const (P := Tryd.prog) w 40 5 C n c Tryd.underlying40 Tryd.underlying5
  have kv := neVol
  have kv' := neVol'
  go_wp2_with fail
  clear kv kc
  refine (full_any _ _ _ _ [120] _ (rd_oneX w3 120 (1, 2))).mono ?_
  rintro e w4 ⟨g, rfl, hO4, hb4⟩
  rw [show full [120] 256 = lX from rfl, lX_len] at hO4 ⊢
  have hb34 : Old w3 w4 := Below.trans ((Below.refl _ w3).alloc (Nat.le_refl _) _) (hb4.mono (by simp))
  have H4 := Lib.hid (And.intro hO4 hb34)
  clear hO4 hb4 hb34
  go_wp2_with fail
  obtain ⟨P, hP⟩ : ∃ P, w4.heap.size = P := ⟨_, rfl⟩
  obtain ⟨w5, hw5⟩ : ∃ w5, w4.alloc (.cells #[.int .i64 3, .slice (some ⟨g, 0, none⟩) 256 256] 42) = w5 := ⟨_, rfl⟩
  have hbP : Blk w5 P 42 #[.int .i64 3, .slice (some ⟨g, 0, none⟩) 256 256] := by rw [← hw5, ← hP]; exact Blk.new _ _ _
  have hO5 : Old w4 w5 := by rw [← hw5]; exact (Old.refl _).alloc _
  have hOw := H4.out.1.below hO5
  have h35 := Old.trans H4.out.2 hO5
  have hD5 := H3.out.1.below h35
  have hne := hOw.beside hD5
  have hG := H1.out.2.2.2.1
  have hcm := commit_any v (X + 1) X 12 0 4 P 1 [⟨3, some ⟨g, 0, none⟩, 256, 256, lX⟩] s1 (List.replicate 12 (zs 256)) w5 (Blk.below H3.out.2.2.2.1 h35) hD5 (H3.out.2.1.below h35) (one_put w5 g P hbP hOw.rd)
    (fun p hp ad had => by simp at hp; subst hp; simp at had; subst had; exact hne g rfl) (by unfold mayP okP; simp [lX_len]) (by rw [H1.out.2.2.2.2.1]) (by rw [H1.out.2.2.2.2.1]; omega) (by rw [H1.out.2.2.2.2.1]; omega) (by omega) H1.out.2.2.2.2.2.2.2 (by omega)
    List.length_replicate (fun i b hi => by have := hG.side i b hi; rw [H1.out.2.2.2.2.1] at this; exact this) (by simp)
  have hts := turn_spec (m2 := after (List.replicate 12 (zs 256)) [(3, lX)]) hG H1.out.2.2.2.2.2.2.2 (by rw [after_len, H1.out.2.2.2.2.1]; simp)
  obtain ⟨ok, s2, hs2⟩ : ∃ ok s2, s1.turnW headB 0 (after (List.replicate 12 (zs 256)) [(3, lX)]) = (ok, s2) := ⟨_, _, rfl⟩
  have hcm' : Calls Tryd.prog 17 #[.pointer (some ⟨v, 0, none⟩), .slice (some ⟨P, 0, none⟩) 1 1] w5 fun e w' =>
      e = .returned (.int .i64 (if (s1.turnW headB 0 (after (List.replicate 12 (zs 256)) [(3, lX)])).1 = true then 0 else 48)) ∧ DkAt w' (X + 1) X (s1.turnW headB 0 (after (List.replicate 12 (zs 256)) [(3, lX)])).2 ∧
      VolB w' v (X + 1) 12 (if (s1.turnW headB 0 (after (List.replicate 12 (zs 256)) [(3, lX)])).1 = true then 0 + 1 else 0) (!(s1.turnW headB 0 (after (List.replicate 12 (zs 256)) [(3, lX)])).1) ∧ Turn [X + 1, X, v] w5 w' := hcm
  rw [hs2] at hts hcm'
  obtain ⟨hdid, _, hgood, _⟩ := hts
  obtain ⟨a1, a2⟩ := hdid.alive H1.out.2.2.2.2.2.2.1 H1.out.2.2.2.2.2.1
  simp only at a1 a2 hgood hdid
  subst a2
  have hg2 := hgood rfl
  simp only [if_true] at hcm'
  have H5 := Lib.hid (And.intro (H3.out.2.1.below h35) (And.intro (H3.out.2.2.1.trans (h35.mono (by rw [← hX]; exact H3.out.2.2.1.size))) (And.intro hg2 (And.intro (hdid.n.trans H1.out.2.2.2.2.1) (And.intro hD5 (show X ≤ v from H3.out.2.2.2.2))))))
  rw [hP, hw5]
  clear hbP hO5 hOw h35 hD5 hne hG hcm hs2 hdid hgood hg2 hw5 hP
  go_wp2_with fail
  refine hcm'.mono ?_
  rintro e w6 ⟨rfl, hD6, _, hT6⟩
  have hK6 : KAt w6 := by
    have hk := H5.out.1
    have hvk : 0 ∉ [X + 1, X, v] := by have := H5.out.2.2.2.2.2; simp; omega
    exact hk.turn hT6 hvk
  have hb6 := below_turn H5.out.2.1 hT6 (by have := H5.out.2.2.2.2.2; simp; omega) (by rw [← hX]; exact (show w.heap.size ≤ w5.heap.size from by rw [hX]; have := H5.out.2.2.2.2.1.lt; omega))
  have hcr := dk_lost hD6
  have hg6 := (H5.out.2.2.1).crash (fun _ => false)
  have hn6 := crash_n s2 (fun _ => false)
  rw [H5.out.2.2.2.1] at hn6
  obtain ⟨s3, hs3⟩ : ∃ s3, s2.crash (fun _ => false) = s3 := ⟨_, rfl⟩
  rw [hs3] at hcr hg6 hn6
  have hdd : s3.dead = false := by rw [← hs3]; exact (crash_fresh s2 _).2.1
  have H6 := Lib.hid (And.intro hK6 (And.intro hb6 (And.intro hg6 (And.intro hn6 hdd))))
  clear hD6 hT6 hcm' hK6 hb6 hg6 hn6 hdd hs3
  go_wp2_with fail
  refine hcr.mono ?_
  rintro e w7 ⟨d', L', rfl, hD7, hd7, hL7, hb7⟩
  have hm7 := mount_good d' L' s3 1 _ w7 hD7 H6.out.2.2.1 (by omega) H6.out.2.2.2.2 (H6.out.1.below hb7)
  rw [H6.out.2.2.2.1] at hm7
  have hs6 := H6.out.2.1.size
  have H7 := Lib.hid (And.intro hD7 (H6.out.2.1.trans (hb7.mono (by rw [← hX]; exact hs6))))
  clear hcr hD7 hd7 hL7 hb7
  go_wp2_with fail
  refine hm7.mono ?_
  rintro e w8 ⟨u, rfl, hu8, hV8, hb8⟩
  have hs7 := H7.out.2.size
  have hrd : s3.rd 23 = lX := by
    have h3 : (after (List.replicate 12 (zs 256)) [(3, lX)])[3]? = some lX := by unfold after; simp
    have := (H6.out.2.2.1.side 3 lX h3).1
    rw [H6.out.2.2.2.1] at this
    exact this
  have hrdc : ∀ W, DkAt W d' L' s3 → VolB W u d' 12 1 false → Calls Tryd.prog 19 #[.pointer (some ⟨u, 0, none⟩), .int .i64 3] W fun e w' =>
      ∃ g c', e = .returned (.slice (some ⟨g, 0, none⟩) 256 c') ∧ Own w' W.heap.size (.slice (some ⟨g, 0, none⟩) 256 c') lX ∧ Below W.heap.size W w' := fun W hDW hVW => by
    refine (volread_any u d' L' 12 1 false s3 W hVW hDW (by omega) (by omega) (by rw [H6.out.2.2.2.1]; omega) 3 (by omega)).mono ?_
    rintro e w' ⟨g, c', h1, h2, _, h3⟩
    rw [show 8 + 1 % 2 * 12 + 3 = 23 from rfl, hrd] at h2
    exact ⟨g, c', h1, h2, h3⟩
  have H8 := Lib.hid (And.intro (H7.out.1.below hb8) (And.intro hV8 (And.intro hrdc (H7.out.2.trans (hb8.mono (by rw [← hX]; exact hs7))))))
  clear hm7 hV8 hb8 hrd hrdc
  go_wp2_with fail
  refine (H8.out.2.2.1 w8 H8.out.1 H8.out.2.1).mono ?_
  rintro e w9 ⟨g9, c9, rfl, hO9, hb9⟩
  have hs8 := H8.out.2.2.2.size
  have H9 := Lib.hid (And.intro (H8.out.1.below hb9) (And.intro (Blk.below H8.out.2.1 hb9) (H8.out.2.2.2.trans (hb9.mono (by rw [← hX]; exact hs8)))))
  clear hO9 hb9
  go_wp2_with fail
  refine (H8.out.2.2.1 w9 H9.out.1 H9.out.2.1).mono ?_
  rintro e w10 ⟨g10, c10, rfl, hO10, hb10⟩
  have hs9 := H9.out.2.2.size
  have hc10 := hO10.at_.cell (k := 9) (by rw [lX_len]; omega)
  have e9 : lX[9]'(by rw [lX_len]; omega) = 120 := by
    have h := lX_9
    rw [List.getElem?_eq_getElem (by rw [lX_len]; omega)] at h
    injection h
  rw [e9] at hc10
  simp only [B, Nat.zero_add] at hc10
  have hV10 : VolB w10 u d' 12 1 false := Blk.below H9.out.2.1 hb10
  have H10 := Lib.hid (And.intro hV10 (H9.out.2.2.trans (hb10.mono (by rw [← hX]; exact hs9))))
  have hco := commits_any u d' 12 1 false w10 hV10
  have hbl := blocks_any u d' 12 1 false w10 hV10
  rw [show ((1 : Nat) : Int) = 1 from rfl] at hco
  rw [show ((12 : Nat) : Int) = 12 from rfl] at hbl
  clear hO10 hb10 hV10
  go_wp2_with fail
  refine hco.mono ?_
  rintro e w11 ⟨rfl, rfl⟩
  go_wp2_with fail
  refine hbl.mono ?_
  rintro e w12 ⟨rfl, rfl⟩
  go_wp2_with fail
  go_ret
  exact ⟨rfl, by rw [hX]; exact H10.out.2⟩
end Go.Proofs.YtomngfihaohgdaaDoor
