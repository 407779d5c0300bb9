/-
  blockfs: the law FsCommits, walked.
-/
import Derived.Test.YtomngfihaohgdaaDoorFsF
namespace Go.Proofs.YtomngfihaohgdaaDoor
set_option maxRecDepth 100000
open Go.RowKit

theorem CmAt.below {w w' : World} {A : Option Addr} {m : Nat} {css : List (List InP)} (h : CmAt w A m css) (hb : Old w w') : CmAt w' A m css := by
  refine ⟨h.1, ?_⟩
  rcases h.2 with h0 | ⟨b, off, hA, hl, hr⟩
  · exact .inl h0
  · refine .inr ⟨b, off, hA, Nat.lt_of_lt_of_le hl hb.size, fun j ins hj => ?_⟩
    obtain ⟨Aj, mj, cj, h1, h2, h3⟩ := hr j ins hj
    exact ⟨Aj, mj, cj, cell_old hb h1, h2, h3.below hb⟩
theorem is_side (v d L c B : Nat) (br : Bool) (s : Dsk) (A : Option Addr) (n cp base : Nat) (rs : List RowV) (w : World) (hV : VolB w v d B c br) (hD : DkAt w d L s) (hM : ModAt w base (.slice A n cp) rs)
    (h16 : 16 ≤ s.n) (h60 : s.n ≤ 1000) (hl : rs.length = B) (hB : (s.n - 8) / 2 = B) (hc : c ≤ 100000) :
    Calls Tryd.prog 12 #[.pointer (some ⟨v, 0, none⟩), .slice A n cp] w fun e w' => e = .returned (.bool (isM s c (rs.map (·.l)))) ∧ Old w w' := by
  subst hl
  have := side_in (n := s.n) (c := c) h16
  rw [hB] at this
  exact is_any v d L c br s A n cp base rs w hV hD hM (by omega) hc this
theorem is_good (v d L c B : Nat) (br : Bool) (s : Dsk) (A : Option Addr) (n cp base : Nat) (rs : List RowV) (w : World) (hV : VolB w v d B c br) (hD : DkAt w d L s) (hM : ModAt w base (.slice A n cp) rs)
    (hG : Good headB s c (rs.map (·.l))) (hB : (s.n - 8) / 2 = B) (hc : c ≤ 100000) :
    Calls Tryd.prog 12 #[.pointer (some ⟨v, 0, none⟩), .slice A n cp] w fun e w' => e = .returned (.bool true) ∧ Old w w' := by
  have hl := hG.len
  rw [List.length_map, hB] at hl
  have := is_side v d L c B br s A n cp base rs w hV hD hM hG.n16 hG.n60 hl hB hc
  rwa [isM_good hB (by rw [List.length_map]; exact hl) hG] at this
theorem neDk (w : World) (a : Addr) : (binOp .eql 24 (.pointer (some a)) (.pointer none)).run Tryd.prog w = .ok (.bool false) w := by kernel_rfl
set_option maxHeartbeats 2000000 in
theorem fsCommits_walk (S : Int) (A : Option Addr) (N c : Nat) (css : List (List InP)) (w : World) (hK : KAt w) (hS0 : -9223372036854775808 ≤ S) (hS1 : S ≤ 9223372036854775807) (hN : N ≤ maxLen) (hc : CmAt w A N css) :
    Calls Tryd.prog 3 #[.int .i64 S, .slice A N c] w fun e w' => e = .returned (.bool true) ∧ Below w.heap.size w w' := by
  have HW := Lib.hid (And.intro hK hc)
  have hs := fun W => fsize_any S hS0 hS1 W
  obtain ⟨hSa, hSb⟩ := sizeN_in S
  have hN' : N ≤ 9223372036854775807 := by unfold maxLen at hN; omega
  obtain ⟨Z, hZ⟩ : ∃ Z, sizeN S = Z := ⟨_, rfl⟩
  obtain ⟨B, hB⟩ : ∃ B, (Z - 8) / 2 = B := ⟨_, rfl⟩
  simp only [hZ] at hs
  rw [hZ] at hSa hSb
  clear hK hc hZ hN
  go_enter Tryd.func3, Tryd.ntmps3
  go_wp2_with fail
  refine (begun_any w HW.out.1).mono ?_
  rintro e w1 ⟨rfl, hb1⟩
  have H1 := Lib.hid hb1
  clear hb1
  go_wp2_with fail
  refine (hs w1).mono ?_
  rintro e w' ⟨rfl, rfl⟩
  have hmd := made_any Z B A N c css w1 (HW.out.1.below H1.out) hSa hSb (HW.out.2.below H1.out) hN' hB
  clear hs hB
  go_wp2_with fail
  refine hmd.mono ?_
  rintro e w2 ⟨d, L, v, n, s, A2, m2, c2, rs, rfl, hI⟩
  have hn6 := hI.nk
  have his := is_good v d L n B false s A2 m2 c2 _ rs w2 hI.V hI.D hI.M hI.G (by rw [hI.sn, hI.hB]) (by omega)
  have H2 := Lib.hid hI
  have kd := neDk
  clear hmd hI
  go_wp2_with fail
  refine his.mono ?_
  rintro e w3 ⟨rfl, hO3⟩
  have hI3 := H2.out.below hO3
  have hco := commits_any v d B n false w3 hI3.V
  have hmn := mount_good d L s n _ w3 hI3.D hI3.G (by omega) hI3.de ((HW.out.1.below H1.out).below hI3.O)
  rw [hI3.sn, hI3.hB] at hmn
  have H3 := Lib.hid hI3
  clear his hO3 hI3
  go_wp2_with fail
  refine hco.mono ?_
  rintro e w' ⟨rfl, rfl⟩
  go_wp2_with fail
  refine hmn.mono ?_
  rintro e w4 ⟨v4, rfl, _, hV4, hO4⟩
  have hI4 := H3.out.below hO4
  have hcr := dk_lost hI4.D
  have H4 := Lib.hid (And.intro hI4 hV4)
  clear hco hmn hO4 hI4 hV4
  go_wp2_with fail
  refine hcr.mono ?_
  rintro e w5 ⟨d5, L5, rfl, hD5, _, _, hO5⟩
  have hI5 := H4.out.1.below hO5
  have hG5 := hI5.G.crash (fun _ => false)
  obtain ⟨f1, f2, f3⟩ := crash_fresh s (fun _ => false)
  have hn5 := crash_n s (fun _ => false)
  obtain ⟨s5, hs5⟩ : ∃ s5, s.crash (fun _ => false) = s5 := ⟨_, rfl⟩
  rw [hs5] at hD5 hG5 f1 f2 f3 hn5
  rw [hI5.sn] at hn5
  have hmn := mount_good d5 L5 s5 n _ w5 hD5 hG5 (by omega) f2 ((HW.out.1.below H1.out).below hI5.O)
  rw [hn5, hI5.hB] at hmn
  have H5 := Lib.hid (And.intro hI5 (And.intro (Blk.below H4.out.2 hO5) (And.intro hD5 (And.intro hG5 hn5))))
  clear hcr hI5 hD5 hG5 hn5 hO5 f1 f2 f3 hs5
  go_wp2_with fail
  refine hmn.mono ?_
  rintro e w6 ⟨v6, rfl, _, hV6, hO6⟩
  have hI6 := H5.out.1.below hO6
  have his := is_good v4 d L n B false s A2 m2 c2 _ rs w6 (Blk.below H5.out.2.1 hO6) hI6.D hI6.M hI6.G (by rw [hI6.sn, hI6.hB]) (by omega)
  have H6 := Lib.hid (And.intro hI6 (And.intro (Blk.below H5.out.2.1 hO6) (And.intro (H5.out.2.2.1.below hO6) hV6)))
  clear hmn hI6 hO6 hV6
  go_wp2_with fail
  refine his.mono ?_
  rintro e w7 ⟨rfl, hO7⟩
  have hI7 := H6.out.1.below hO7
  have hV7 : VolB w7 v6 d5 B n false := Blk.below H6.out.2.2.2 hO7
  have his := is_good v6 d5 L5 n B false s5 A2 m2 c2 _ rs w7 hV7 (H6.out.2.2.1.below hO7) hI7.M H5.out.2.2.2.1 (by rw [H5.out.2.2.2.2, hI7.hB]) (by omega)
  have H7 := Lib.hid (And.intro hI7 (And.intro (Blk.below H6.out.2.1 hO7) hV7))
  clear hI7 hO7 hV7
  go_wp2_with fail
  refine his.mono ?_
  rintro e w8 ⟨rfl, hO8⟩
  have hI8 := H7.out.1.below hO8
  have hco4 := commits_any v4 d B n false w8 (Blk.below H7.out.2.1 hO8)
  have hco6 := commits_any v6 d5 B n false w8 (Blk.below H7.out.2.2 hO8)
  have H8 := Lib.hid (Old.trans H1.out hI8.O)
  clear his hI8 hO8
  go_wp2_with fail
  refine hco4.mono ?_
  rintro e w' ⟨rfl, rfl⟩
  go_wp2_with fail
  refine hco6.mono ?_
  rintro e w' ⟨rfl, rfl⟩
  go_wp2_with fail
  go_ret
  exact ⟨rfl, H8.out⟩
end Go.Proofs.YtomngfihaohgdaaDoor
