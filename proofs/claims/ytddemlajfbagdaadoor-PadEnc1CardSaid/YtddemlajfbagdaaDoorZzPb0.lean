/-
  Pad, the document: DigestInfo.
  Pad, plainly: what is made is taken, and undone.
-/
import Derived.Test.YtddemlajfbagdaaDoorPe4
namespace Go.Proofs.YtddemlajfbagdaaDoor
set_option maxRecDepth 100000
open Go.RowKit

theorem conv8 (n : Nat) (hn : n < 256) (W : World) : (convert 3 5 (.int .i64 (n : Int))).run Tryd.prog W = .ok (B (UInt8.ofNat n)) W := conv_iB8 n W hn
set_option maxHeartbeats 16000000 in
theorem rinfo_any (kind : Int) (A : Option Addr) (m c : Nat) (t : List UInt8) (w : World) (ht : Rd w A m c t) :
    Calls Tryd.prog 13 #[.int .i64 kind, .slice A m c] w (InfRes w (infoF kind t)) := by
  have hl := ht.1
  have hS1 := fun W => rsize_any kind W
  unfold infoF
  rw [← hl]
  by_cases d1 : hsize kind = 0
  · rw [if_pos (.inl d1)]
    rw [d1] at hS1
    have HS := Lib.hid hS1
    clear ht hS1 hl d1
    go_enter Tryd.func13, Tryd.ntmps13
    go_wp2_with fail
    refine (HS.out _).mono ?_
    rintro e w' ⟨rfl, rfl⟩
    go_wp2_with fail
    refine bodyPost_ret (results_tmp2 rfl _ _ _) rfl ?_
    exact ⟨none, 0, 0, rfl, Rd.nil _, Old.refl _⟩
  · have hk := hsize_in kind d1
    by_cases d2 : (m : Int) = hsize kind
    · rw [if_neg (fun h => h.elim d1 (fun h => h d2))]
      clear d1
      have hcase : kind = 1 ∨ kind = 2 ∨ kind = 3 ∨ kind = 4 ∨ kind = 5 := by omega
      clear hk
      rcases hcase with rfl | rfl | rfl | rfl | rfl
      · obtain rfl : m = 20 := by have h9 : hsize 1 = 20 := rfl; omega
        have h9 : hsize 1 = ((20 : Nat) : Int) := rfl
        simp only [h9] at hS1
        clear d2 h9

        have hc1 := conv8 5 (by decide)
        have hc2 := conv8 9 (by decide)
        have hc3 := conv8 20 (by decide)
        have hc4 := conv8 33 (by decide)
        rw [show ((5 : Nat) : Int) = 5 from rfl, show B (UInt8.ofNat 5) = .int .u8 5 from rfl] at hc1
        rw [show ((9 : Nat) : Int) = 9 from rfl, show B (UInt8.ofNat 9) = .int .u8 9 from rfl] at hc2
        rw [show ((20 : Nat) : Int) = 20 from rfl, show B (UInt8.ofNat 20) = .int .u8 20 from rfl] at hc3
        rw [show ((33 : Nat) : Int) = 33 from rfl, show B (UInt8.ofNat 33) = .int .u8 33 from rfl] at hc4
        rw [show (((20 : Nat)) : Int) = 20 from rfl] at hS1
        have HH := Lib.hid (And.intro ht hS1)
        clear ht hS1 hl
        go_enter Tryd.func13, Tryd.ntmps13
        go_wp2_with fail
        refine (HH.out.2 _).mono ?_
        rintro e w' ⟨rfl, rfl⟩
        go_wp2_with fail
        refine (HH.out.2 _).mono ?_
        rintro e w' ⟨rfl, rfl⟩
        obtain ⟨w1, hw1⟩ : ∃ w1, (w.alloc (.cells #[.int .u8 96, .int .u8 134, .int .u8 72, .int .u8 1, .int .u8 101, .int .u8 3, .int .u8 4, .int .u8 2, .int .u8 0] 5)).alloc (.cells #[.int .u8 43, .int .u8 14, .int .u8 3, .int .u8 2, .int .u8 26] 5) = w1 := ⟨_, rfl⟩
        have hO1 : Rd w1 (some ⟨w.heap.size + 1, 0, none⟩) 5 5 [43, 14, 3, 2, 26] := by rw [← hw1]; exact (by have h8 := (own_new (w.alloc (.cells #[.int .u8 96, .int .u8 134, .int .u8 72, .int .u8 1, .int .u8 101, .int .u8 3, .int .u8 4, .int .u8 2, .int .u8 0] 5)) [43, 14, 3, 2, 26] #[.int .u8 43, .int .u8 14, .int .u8 3, .int .u8 2, .int .u8 26] 5 rfl rfl (by decide)).rd; rwa [World.size_alloc] at h8)
        have hB1 : Old w w1 := by rw [← hw1]; exact ((Old.refl w).alloc _).alloc _
        have H1 := Lib.hid (And.intro hO1 hB1)
        clear hO1 hB1

        go_wp2_with (first
          | (at_builtin; refine wp_app2 (.tmp 43) (.tmp 44) w.heap.size _ _ ((own_new w1 [6, 5] _ 2 rfl rfl (by decide)).mono H1.out.2.size) (by rw [World.size_alloc]; have := H1.out.2.size; omega) _ _ _ _ (H1.out.1.below ((Old.refl w1).alloc _)) (by decide) rfl rfl rfl rfl ?_; intro A5 n5 c5 w2 hn5 hG5; have H2 := Lib.hid (And.intro hG5.own (show Old w w2 from Below.trans (H1.out.2.alloc _) hG5.below)); have hl5 := hG5.len; clear hG5; obtain rfl : n5 = 7 := hl5)
          | (at_builtin; refine wp_app_lit (.tmp 46) (.tmp 47) w.heap.size _ _ H2.out.1 H2.out.2.size [5, 0] (by decide) (by simp) rfl rfl rfl rfl rfl rfl ?_; intro A6 n6 c6 w3 hn6 hG6; have H3 := Lib.hid (And.intro hG6.own (show Old w w3 from Below.trans (H2.out.2.alloc _) hG6.below)); have hl6 := hG6.len; clear hG6; obtain rfl : n6 = 9 := hl6)
          | (at_builtin; refine wp_app2 (.tmp 52) (.tmp 53) w.heap.size _ _ ((own_new w3 [48, 9] _ 2 rfl rfl (by decide)).mono H3.out.2.size) (by rw [World.size_alloc]; have := H3.out.2.size; omega) _ _ _ _ (H3.out.1.rd.below ((Old.refl w3).alloc _)) (by decide) rfl rfl rfl rfl ?_; intro A7 n7 c7 w4 hn7 hG7; have H4 := Lib.hid (And.intro hG7.own (show Old w w4 from Below.trans (H3.out.2.alloc _) hG7.below)); have hl7 := hG7.len; clear hG7; obtain rfl : n7 = 11 := hl7)
          | (at_builtin; refine wp_app_lit (.tmp 55) (.tmp 59) w.heap.size _ _ H4.out.1 H4.out.2.size [4, 20] (by decide) (by simp) rfl rfl rfl rfl rfl rfl ?_; intro A8 n8 c8 w5 hn8 hG8; have H5 := Lib.hid (And.intro hG8.own (show Old w w5 from Below.trans (H4.out.2.alloc _) hG8.below)); have hl8 := hG8.len; clear hG8; obtain rfl : n8 = 13 := hl8)
          | (at_builtin; refine wp_app2 (.tmp 61) (.tmp 62) w.heap.size (.slice A8 13 c8) _ H5.out.1 H5.out.2.size A 20 c t (HH.out.1.below H5.out.2) (by have h1 := HH.out.1.1; rw [← h1]; decide) rfl rfl rfl rfl ?_; intro A9 n9 c9 w6 hn9 hG9; have H6 := Lib.hid (And.intro hG9.own (show Old w w6 from Below.trans H5.out.2 hG9.below)); have hl9 : n9 = 33 := (by rw [hG9.len, List.length_append, ← HH.out.1.1]; rfl); clear hG9; subst hl9)
          | (at_builtin; refine wp_app2 (.tmp 67) (.tmp 68) w.heap.size _ _ ((own_new w6 [48, 33] _ 2 rfl rfl (by decide)).mono H6.out.2.size) (by rw [World.size_alloc]; have := H6.out.2.size; omega) _ _ _ _ (H6.out.1.rd.below ((Old.refl w6).alloc _)) (by rw [← H6.out.1.len]; decide) rfl rfl rfl rfl ?_; intro B7 p7 q7 w7 hp7 hG7; have H7 := Lib.hid (And.intro hG7.own (show Old w w7 from Below.trans (H6.out.2.alloc _) hG7.below)); clear hG7))
        refine bodyPost_ret (results_tmp2 rfl _ _ _) rfl ?_
        refine ⟨_, _, _, rfl, ?_, H7.out.2⟩
        have h8 := H7.out.1.rd
        have h9 := HH.out.1.1
        simpa [infoB, heldB, oidB, ← h9] using h8
      · obtain rfl : m = 28 := by have h9 : hsize 2 = 28 := rfl; omega
        have h9 : hsize 2 = ((28 : Nat) : Int) := rfl
        simp only [h9] at hS1
        clear d2 h9

        have hc1 := conv8 9 (by decide)
        have hc2 := conv8 13 (by decide)
        have hc3 := conv8 28 (by decide)
        have hc4 := conv8 45 (by decide)
        rw [show ((9 : Nat) : Int) = 9 from rfl, show B (UInt8.ofNat 9) = .int .u8 9 from rfl] at hc1
        rw [show ((13 : Nat) : Int) = 13 from rfl, show B (UInt8.ofNat 13) = .int .u8 13 from rfl] at hc2
        rw [show ((28 : Nat) : Int) = 28 from rfl, show B (UInt8.ofNat 28) = .int .u8 28 from rfl] at hc3
        rw [show ((45 : Nat) : Int) = 45 from rfl, show B (UInt8.ofNat 45) = .int .u8 45 from rfl] at hc4
        rw [show (((28 : Nat)) : Int) = 28 from rfl] at hS1
        have HH := Lib.hid (And.intro ht hS1)
        clear ht hS1 hl
        go_enter Tryd.func13, Tryd.ntmps13
        go_wp2_with fail
        refine (HH.out.2 _).mono ?_
        rintro e w' ⟨rfl, rfl⟩
        go_wp2_with fail
        refine (HH.out.2 _).mono ?_
        rintro e w' ⟨rfl, rfl⟩
        obtain ⟨w1, hw1⟩ : ∃ w1, w.alloc (.cells #[.int .u8 96, .int .u8 134, .int .u8 72, .int .u8 1, .int .u8 101, .int .u8 3, .int .u8 4, .int .u8 2, .int .u8 4] 5) = w1 := ⟨_, rfl⟩
        have hO1 : Rd w1 (some ⟨w.heap.size, 0, none⟩) 9 9 [96, 134, 72, 1, 101, 3, 4, 2, 4] := by rw [← hw1]; exact (own_new w [96, 134, 72, 1, 101, 3, 4, 2, 4] #[.int .u8 96, .int .u8 134, .int .u8 72, .int .u8 1, .int .u8 101, .int .u8 3, .int .u8 4, .int .u8 2, .int .u8 4] 9 rfl rfl (by decide)).rd
        have hB1 : Old w w1 := by rw [← hw1]; exact (Old.refl w).alloc _
        have H1 := Lib.hid (And.intro hO1 hB1)
        clear hO1 hB1

        go_wp2_with (first
          | (at_builtin; refine wp_app2 (.tmp 43) (.tmp 44) w.heap.size _ _ ((own_new w1 [6, 9] _ 2 rfl rfl (by decide)).mono H1.out.2.size) (by rw [World.size_alloc]; have := H1.out.2.size; omega) _ _ _ _ (H1.out.1.below ((Old.refl w1).alloc _)) (by decide) rfl rfl rfl rfl ?_; intro A5 n5 c5 w2 hn5 hG5; have H2 := Lib.hid (And.intro hG5.own (show Old w w2 from Below.trans (H1.out.2.alloc _) hG5.below)); have hl5 := hG5.len; clear hG5; obtain rfl : n5 = 11 := hl5)
          | (at_builtin; refine wp_app_lit (.tmp 46) (.tmp 47) w.heap.size _ _ H2.out.1 H2.out.2.size [5, 0] (by decide) (by simp) rfl rfl rfl rfl rfl rfl ?_; intro A6 n6 c6 w3 hn6 hG6; have H3 := Lib.hid (And.intro hG6.own (show Old w w3 from Below.trans (H2.out.2.alloc _) hG6.below)); have hl6 := hG6.len; clear hG6; obtain rfl : n6 = 13 := hl6)
          | (at_builtin; refine wp_app2 (.tmp 52) (.tmp 53) w.heap.size _ _ ((own_new w3 [48, 13] _ 2 rfl rfl (by decide)).mono H3.out.2.size) (by rw [World.size_alloc]; have := H3.out.2.size; omega) _ _ _ _ (H3.out.1.rd.below ((Old.refl w3).alloc _)) (by decide) rfl rfl rfl rfl ?_; intro A7 n7 c7 w4 hn7 hG7; have H4 := Lib.hid (And.intro hG7.own (show Old w w4 from Below.trans (H3.out.2.alloc _) hG7.below)); have hl7 := hG7.len; clear hG7; obtain rfl : n7 = 15 := hl7)
          | (at_builtin; refine wp_app_lit (.tmp 55) (.tmp 59) w.heap.size _ _ H4.out.1 H4.out.2.size [4, 28] (by decide) (by simp) rfl rfl rfl rfl rfl rfl ?_; intro A8 n8 c8 w5 hn8 hG8; have H5 := Lib.hid (And.intro hG8.own (show Old w w5 from Below.trans (H4.out.2.alloc _) hG8.below)); have hl8 := hG8.len; clear hG8; obtain rfl : n8 = 17 := hl8)
          | (at_builtin; refine wp_app2 (.tmp 61) (.tmp 62) w.heap.size (.slice A8 17 c8) _ H5.out.1 H5.out.2.size A 28 c t (HH.out.1.below H5.out.2) (by have h1 := HH.out.1.1; rw [← h1]; decide) rfl rfl rfl rfl ?_; intro A9 n9 c9 w6 hn9 hG9; have H6 := Lib.hid (And.intro hG9.own (show Old w w6 from Below.trans H5.out.2 hG9.below)); have hl9 : n9 = 45 := (by rw [hG9.len, List.length_append, ← HH.out.1.1]; rfl); clear hG9; subst hl9)
          | (at_builtin; refine wp_app2 (.tmp 67) (.tmp 68) w.heap.size _ _ ((own_new w6 [48, 45] _ 2 rfl rfl (by decide)).mono H6.out.2.size) (by rw [World.size_alloc]; have := H6.out.2.size; omega) _ _ _ _ (H6.out.1.rd.below ((Old.refl w6).alloc _)) (by rw [← H6.out.1.len]; decide) rfl rfl rfl rfl ?_; intro B7 p7 q7 w7 hp7 hG7; have H7 := Lib.hid (And.intro hG7.own (show Old w w7 from Below.trans (H6.out.2.alloc _) hG7.below)); clear hG7))
        refine bodyPost_ret (results_tmp2 rfl _ _ _) rfl ?_
        refine ⟨_, _, _, rfl, ?_, H7.out.2⟩
        have h8 := H7.out.1.rd
        have h9 := HH.out.1.1
        simpa [infoB, heldB, oidB, ← h9] using h8
      · obtain rfl : m = 32 := by have h9 : hsize 3 = 32 := rfl; omega
        have h9 : hsize 3 = ((32 : Nat) : Int) := rfl
        simp only [h9] at hS1
        clear d2 h9

        have hc1 := conv8 9 (by decide)
        have hc2 := conv8 13 (by decide)
        have hc3 := conv8 32 (by decide)
        have hc4 := conv8 49 (by decide)
        rw [show ((9 : Nat) : Int) = 9 from rfl, show B (UInt8.ofNat 9) = .int .u8 9 from rfl] at hc1
        rw [show ((13 : Nat) : Int) = 13 from rfl, show B (UInt8.ofNat 13) = .int .u8 13 from rfl] at hc2
        rw [show ((32 : Nat) : Int) = 32 from rfl, show B (UInt8.ofNat 32) = .int .u8 32 from rfl] at hc3
        rw [show ((49 : Nat) : Int) = 49 from rfl, show B (UInt8.ofNat 49) = .int .u8 49 from rfl] at hc4
        rw [show (((32 : Nat)) : Int) = 32 from rfl] at hS1
        have HH := Lib.hid (And.intro ht hS1)
        clear ht hS1 hl
        go_enter Tryd.func13, Tryd.ntmps13
        go_wp2_with fail
        refine (HH.out.2 _).mono ?_
        rintro e w' ⟨rfl, rfl⟩
        go_wp2_with fail
        refine (HH.out.2 _).mono ?_
        rintro e w' ⟨rfl, rfl⟩
        obtain ⟨w1, hw1⟩ : ∃ w1, w.alloc (.cells #[.int .u8 96, .int .u8 134, .int .u8 72, .int .u8 1, .int .u8 101, .int .u8 3, .int .u8 4, .int .u8 2, .int .u8 1] 5) = w1 := ⟨_, rfl⟩
        have hO1 : Rd w1 (some ⟨w.heap.size, 0, none⟩) 9 9 [96, 134, 72, 1, 101, 3, 4, 2, 1] := by rw [← hw1]; exact (own_new w [96, 134, 72, 1, 101, 3, 4, 2, 1] #[.int .u8 96, .int .u8 134, .int .u8 72, .int .u8 1, .int .u8 101, .int .u8 3, .int .u8 4, .int .u8 2, .int .u8 1] 9 rfl rfl (by decide)).rd
        have hB1 : Old w w1 := by rw [← hw1]; exact (Old.refl w).alloc _
        have H1 := Lib.hid (And.intro hO1 hB1)
        clear hO1 hB1

        go_wp2_with (first
          | (at_builtin; refine wp_app2 (.tmp 43) (.tmp 44) w.heap.size _ _ ((own_new w1 [6, 9] _ 2 rfl rfl (by decide)).mono H1.out.2.size) (by rw [World.size_alloc]; have := H1.out.2.size; omega) _ _ _ _ (H1.out.1.below ((Old.refl w1).alloc _)) (by decide) rfl rfl rfl rfl ?_; intro A5 n5 c5 w2 hn5 hG5; have H2 := Lib.hid (And.intro hG5.own (show Old w w2 from Below.trans (H1.out.2.alloc _) hG5.below)); have hl5 := hG5.len; clear hG5; obtain rfl : n5 = 11 := hl5)
          | (at_builtin; refine wp_app_lit (.tmp 46) (.tmp 47) w.heap.size _ _ H2.out.1 H2.out.2.size [5, 0] (by decide) (by simp) rfl rfl rfl rfl rfl rfl ?_; intro A6 n6 c6 w3 hn6 hG6; have H3 := Lib.hid (And.intro hG6.own (show Old w w3 from Below.trans (H2.out.2.alloc _) hG6.below)); have hl6 := hG6.len; clear hG6; obtain rfl : n6 = 13 := hl6)
          | (at_builtin; refine wp_app2 (.tmp 52) (.tmp 53) w.heap.size _ _ ((own_new w3 [48, 13] _ 2 rfl rfl (by decide)).mono H3.out.2.size) (by rw [World.size_alloc]; have := H3.out.2.size; omega) _ _ _ _ (H3.out.1.rd.below ((Old.refl w3).alloc _)) (by decide) rfl rfl rfl rfl ?_; intro A7 n7 c7 w4 hn7 hG7; have H4 := Lib.hid (And.intro hG7.own (show Old w w4 from Below.trans (H3.out.2.alloc _) hG7.below)); have hl7 := hG7.len; clear hG7; obtain rfl : n7 = 15 := hl7)
          | (at_builtin; refine wp_app_lit (.tmp 55) (.tmp 59) w.heap.size _ _ H4.out.1 H4.out.2.size [4, 32] (by decide) (by simp) rfl rfl rfl rfl rfl rfl ?_; intro A8 n8 c8 w5 hn8 hG8; have H5 := Lib.hid (And.intro hG8.own (show Old w w5 from Below.trans (H4.out.2.alloc _) hG8.below)); have hl8 := hG8.len; clear hG8; obtain rfl : n8 = 17 := hl8)
          | (at_builtin; refine wp_app2 (.tmp 61) (.tmp 62) w.heap.size (.slice A8 17 c8) _ H5.out.1 H5.out.2.size A 32 c t (HH.out.1.below H5.out.2) (by have h1 := HH.out.1.1; rw [← h1]; decide) rfl rfl rfl rfl ?_; intro A9 n9 c9 w6 hn9 hG9; have H6 := Lib.hid (And.intro hG9.own (show Old w w6 from Below.trans H5.out.2 hG9.below)); have hl9 : n9 = 49 := (by rw [hG9.len, List.length_append, ← HH.out.1.1]; rfl); clear hG9; subst hl9)
          | (at_builtin; refine wp_app2 (.tmp 67) (.tmp 68) w.heap.size _ _ ((own_new w6 [48, 49] _ 2 rfl rfl (by decide)).mono H6.out.2.size) (by rw [World.size_alloc]; have := H6.out.2.size; omega) _ _ _ _ (H6.out.1.rd.below ((Old.refl w6).alloc _)) (by rw [← H6.out.1.len]; decide) rfl rfl rfl rfl ?_; intro B7 p7 q7 w7 hp7 hG7; have H7 := Lib.hid (And.intro hG7.own (show Old w w7 from Below.trans (H6.out.2.alloc _) hG7.below)); clear hG7))
        refine bodyPost_ret (results_tmp2 rfl _ _ _) rfl ?_
        refine ⟨_, _, _, rfl, ?_, H7.out.2⟩
        have h8 := H7.out.1.rd
        have h9 := HH.out.1.1
        simpa [infoB, heldB, oidB, ← h9] using h8
      · obtain rfl : m = 48 := by have h9 : hsize 4 = 48 := rfl; omega
        have h9 : hsize 4 = ((48 : Nat) : Int) := rfl
        simp only [h9] at hS1
        clear d2 h9

        have hc1 := conv8 9 (by decide)
        have hc2 := conv8 13 (by decide)
        have hc3 := conv8 48 (by decide)
        have hc4 := conv8 65 (by decide)
        rw [show ((9 : Nat) : Int) = 9 from rfl, show B (UInt8.ofNat 9) = .int .u8 9 from rfl] at hc1
        rw [show ((13 : Nat) : Int) = 13 from rfl, show B (UInt8.ofNat 13) = .int .u8 13 from rfl] at hc2
        rw [show ((48 : Nat) : Int) = 48 from rfl, show B (UInt8.ofNat 48) = .int .u8 48 from rfl] at hc3
        rw [show ((65 : Nat) : Int) = 65 from rfl, show B (UInt8.ofNat 65) = .int .u8 65 from rfl] at hc4
        rw [show (((48 : Nat)) : Int) = 48 from rfl] at hS1
        have HH := Lib.hid (And.intro ht hS1)
        clear ht hS1 hl
        go_enter Tryd.func13, Tryd.ntmps13
        go_wp2_with fail
        refine (HH.out.2 _).mono ?_
        rintro e w' ⟨rfl, rfl⟩
        go_wp2_with fail
        refine (HH.out.2 _).mono ?_
        rintro e w' ⟨rfl, rfl⟩
        obtain ⟨w1, hw1⟩ : ∃ w1, w.alloc (.cells #[.int .u8 96, .int .u8 134, .int .u8 72, .int .u8 1, .int .u8 101, .int .u8 3, .int .u8 4, .int .u8 2, .int .u8 2] 5) = w1 := ⟨_, rfl⟩
        have hO1 : Rd w1 (some ⟨w.heap.size, 0, none⟩) 9 9 [96, 134, 72, 1, 101, 3, 4, 2, 2] := by rw [← hw1]; exact (own_new w [96, 134, 72, 1, 101, 3, 4, 2, 2] #[.int .u8 96, .int .u8 134, .int .u8 72, .int .u8 1, .int .u8 101, .int .u8 3, .int .u8 4, .int .u8 2, .int .u8 2] 9 rfl rfl (by decide)).rd
        have hB1 : Old w w1 := by rw [← hw1]; exact (Old.refl w).alloc _
        have H1 := Lib.hid (And.intro hO1 hB1)
        clear hO1 hB1

        go_wp2_with (first
          | (at_builtin; refine wp_app2 (.tmp 43) (.tmp 44) w.heap.size _ _ ((own_new w1 [6, 9] _ 2 rfl rfl (by decide)).mono H1.out.2.size) (by rw [World.size_alloc]; have := H1.out.2.size; omega) _ _ _ _ (H1.out.1.below ((Old.refl w1).alloc _)) (by decide) rfl rfl rfl rfl ?_; intro A5 n5 c5 w2 hn5 hG5; have H2 := Lib.hid (And.intro hG5.own (show Old w w2 from Below.trans (H1.out.2.alloc _) hG5.below)); have hl5 := hG5.len; clear hG5; obtain rfl : n5 = 11 := hl5)
          | (at_builtin; refine wp_app_lit (.tmp 46) (.tmp 47) w.heap.size _ _ H2.out.1 H2.out.2.size [5, 0] (by decide) (by simp) rfl rfl rfl rfl rfl rfl ?_; intro A6 n6 c6 w3 hn6 hG6; have H3 := Lib.hid (And.intro hG6.own (show Old w w3 from Below.trans (H2.out.2.alloc _) hG6.below)); have hl6 := hG6.len; clear hG6; obtain rfl : n6 = 13 := hl6)
          | (at_builtin; refine wp_app2 (.tmp 52) (.tmp 53) w.heap.size _ _ ((own_new w3 [48, 13] _ 2 rfl rfl (by decide)).mono H3.out.2.size) (by rw [World.size_alloc]; have := H3.out.2.size; omega) _ _ _ _ (H3.out.1.rd.below ((Old.refl w3).alloc _)) (by decide) rfl rfl rfl rfl ?_; intro A7 n7 c7 w4 hn7 hG7; have H4 := Lib.hid (And.intro hG7.own (show Old w w4 from Below.trans (H3.out.2.alloc _) hG7.below)); have hl7 := hG7.len; clear hG7; obtain rfl : n7 = 15 := hl7)
          | (at_builtin; refine wp_app_lit (.tmp 55) (.tmp 59) w.heap.size _ _ H4.out.1 H4.out.2.size [4, 48] (by decide) (by simp) rfl rfl rfl rfl rfl rfl ?_; intro A8 n8 c8 w5 hn8 hG8; have H5 := Lib.hid (And.intro hG8.own (show Old w w5 from Below.trans (H4.out.2.alloc _) hG8.below)); have hl8 := hG8.len; clear hG8; obtain rfl : n8 = 17 := hl8)
          | (at_builtin; refine wp_app2 (.tmp 61) (.tmp 62) w.heap.size (.slice A8 17 c8) _ H5.out.1 H5.out.2.size A 48 c t (HH.out.1.below H5.out.2) (by have h1 := HH.out.1.1; rw [← h1]; decide) rfl rfl rfl rfl ?_; intro A9 n9 c9 w6 hn9 hG9; have H6 := Lib.hid (And.intro hG9.own (show Old w w6 from Below.trans H5.out.2 hG9.below)); have hl9 : n9 = 65 := (by rw [hG9.len, List.length_append, ← HH.out.1.1]; rfl); clear hG9; subst hl9)
          | (at_builtin; refine wp_app2 (.tmp 67) (.tmp 68) w.heap.size _ _ ((own_new w6 [48, 65] _ 2 rfl rfl (by decide)).mono H6.out.2.size) (by rw [World.size_alloc]; have := H6.out.2.size; omega) _ _ _ _ (H6.out.1.rd.below ((Old.refl w6).alloc _)) (by rw [← H6.out.1.len]; decide) rfl rfl rfl rfl ?_; intro B7 p7 q7 w7 hp7 hG7; have H7 := Lib.hid (And.intro hG7.own (show Old w w7 from Below.trans (H6.out.2.alloc _) hG7.below)); clear hG7))
        refine bodyPost_ret (results_tmp2 rfl _ _ _) rfl ?_
        refine ⟨_, _, _, rfl, ?_, H7.out.2⟩
        have h8 := H7.out.1.rd
        have h9 := HH.out.1.1
        simpa [infoB, heldB, oidB, ← h9] using h8
      · obtain rfl : m = 64 := by have h9 : hsize 5 = 64 := rfl; omega
        have h9 : hsize 5 = ((64 : Nat) : Int) := rfl
        simp only [h9] at hS1
        clear d2 h9

        have hc1 := conv8 9 (by decide)
        have hc2 := conv8 13 (by decide)
        have hc3 := conv8 64 (by decide)
        have hc4 := conv8 81 (by decide)
        rw [show ((9 : Nat) : Int) = 9 from rfl, show B (UInt8.ofNat 9) = .int .u8 9 from rfl] at hc1
        rw [show ((13 : Nat) : Int) = 13 from rfl, show B (UInt8.ofNat 13) = .int .u8 13 from rfl] at hc2
        rw [show ((64 : Nat) : Int) = 64 from rfl, show B (UInt8.ofNat 64) = .int .u8 64 from rfl] at hc3
        rw [show ((81 : Nat) : Int) = 81 from rfl, show B (UInt8.ofNat 81) = .int .u8 81 from rfl] at hc4
        rw [show (((64 : Nat)) : Int) = 64 from rfl] at hS1
        have HH := Lib.hid (And.intro ht hS1)
        clear ht hS1 hl
        go_enter Tryd.func13, Tryd.ntmps13
        go_wp2_with fail
        refine (HH.out.2 _).mono ?_
        rintro e w' ⟨rfl, rfl⟩
        go_wp2_with fail
        refine (HH.out.2 _).mono ?_
        rintro e w' ⟨rfl, rfl⟩
        obtain ⟨w1, hw1⟩ : ∃ w1, w.alloc (.cells #[.int .u8 96, .int .u8 134, .int .u8 72, .int .u8 1, .int .u8 101, .int .u8 3, .int .u8 4, .int .u8 2, .int .u8 3] 5) = w1 := ⟨_, rfl⟩
        have hO1 : Rd w1 (some ⟨w.heap.size, 0, none⟩) 9 9 [96, 134, 72, 1, 101, 3, 4, 2, 3] := by rw [← hw1]; exact (own_new w [96, 134, 72, 1, 101, 3, 4, 2, 3] #[.int .u8 96, .int .u8 134, .int .u8 72, .int .u8 1, .int .u8 101, .int .u8 3, .int .u8 4, .int .u8 2, .int .u8 3] 9 rfl rfl (by decide)).rd
        have hB1 : Old w w1 := by rw [← hw1]; exact (Old.refl w).alloc _
        have H1 := Lib.hid (And.intro hO1 hB1)
        clear hO1 hB1

        go_wp2_with (first
          | (at_builtin; refine wp_app2 (.tmp 43) (.tmp 44) w.heap.size _ _ ((own_new w1 [6, 9] _ 2 rfl rfl (by decide)).mono H1.out.2.size) (by rw [World.size_alloc]; have := H1.out.2.size; omega) _ _ _ _ (H1.out.1.below ((Old.refl w1).alloc _)) (by decide) rfl rfl rfl rfl ?_; intro A5 n5 c5 w2 hn5 hG5; have H2 := Lib.hid (And.intro hG5.own (show Old w w2 from Below.trans (H1.out.2.alloc _) hG5.below)); have hl5 := hG5.len; clear hG5; obtain rfl : n5 = 11 := hl5)
          | (at_builtin; refine wp_app_lit (.tmp 46) (.tmp 47) w.heap.size _ _ H2.out.1 H2.out.2.size [5, 0] (by decide) (by simp) rfl rfl rfl rfl rfl rfl ?_; intro A6 n6 c6 w3 hn6 hG6; have H3 := Lib.hid (And.intro hG6.own (show Old w w3 from Below.trans (H2.out.2.alloc _) hG6.below)); have hl6 := hG6.len; clear hG6; obtain rfl : n6 = 13 := hl6)
          | (at_builtin; refine wp_app2 (.tmp 52) (.tmp 53) w.heap.size _ _ ((own_new w3 [48, 13] _ 2 rfl rfl (by decide)).mono H3.out.2.size) (by rw [World.size_alloc]; have := H3.out.2.size; omega) _ _ _ _ (H3.out.1.rd.below ((Old.refl w3).alloc _)) (by decide) rfl rfl rfl rfl ?_; intro A7 n7 c7 w4 hn7 hG7; have H4 := Lib.hid (And.intro hG7.own (show Old w w4 from Below.trans (H3.out.2.alloc _) hG7.below)); have hl7 := hG7.len; clear hG7; obtain rfl : n7 = 15 := hl7)
          | (at_builtin; refine wp_app_lit (.tmp 55) (.tmp 59) w.heap.size _ _ H4.out.1 H4.out.2.size [4, 64] (by decide) (by simp) rfl rfl rfl rfl rfl rfl ?_; intro A8 n8 c8 w5 hn8 hG8; have H5 := Lib.hid (And.intro hG8.own (show Old w w5 from Below.trans (H4.out.2.alloc _) hG8.below)); have hl8 := hG8.len; clear hG8; obtain rfl : n8 = 17 := hl8)
          | (at_builtin; refine wp_app2 (.tmp 61) (.tmp 62) w.heap.size (.slice A8 17 c8) _ H5.out.1 H5.out.2.size A 64 c t (HH.out.1.below H5.out.2) (by have h1 := HH.out.1.1; rw [← h1]; decide) rfl rfl rfl rfl ?_; intro A9 n9 c9 w6 hn9 hG9; have H6 := Lib.hid (And.intro hG9.own (show Old w w6 from Below.trans H5.out.2 hG9.below)); have hl9 : n9 = 81 := (by rw [hG9.len, List.length_append, ← HH.out.1.1]; rfl); clear hG9; subst hl9)
          | (at_builtin; refine wp_app2 (.tmp 67) (.tmp 68) w.heap.size _ _ ((own_new w6 [48, 81] _ 2 rfl rfl (by decide)).mono H6.out.2.size) (by rw [World.size_alloc]; have := H6.out.2.size; omega) _ _ _ _ (H6.out.1.rd.below ((Old.refl w6).alloc _)) (by rw [← H6.out.1.len]; decide) rfl rfl rfl rfl ?_; intro B7 p7 q7 w7 hp7 hG7; have H7 := Lib.hid (And.intro hG7.own (show Old w w7 from Below.trans (H6.out.2.alloc _) hG7.below)); clear hG7))
        refine bodyPost_ret (results_tmp2 rfl _ _ _) rfl ?_
        refine ⟨_, _, _, rfl, ?_, H7.out.2⟩
        have h8 := H7.out.1.rd
        have h9 := HH.out.1.1
        simpa [infoB, heldB, oidB, ← h9] using h8
    · rw [if_pos (.inr d2)]
      obtain ⟨h, hh⟩ : ∃ h, hsize kind = h := ⟨_, rfl⟩
      rw [hh] at d1 d2 hS1
      have b1 : (h == 0) = false := by simpa using d1
      have b2 : ((m : Int) != h) = true := by simpa using d2
      have HS := Lib.hid hS1
      clear ht hS1 hl d1 d2 hh hk
      go_enter Tryd.func13, Tryd.ntmps13
      go_wp2_with fail
      refine (HS.out _).mono ?_
      rintro e w' ⟨rfl, rfl⟩
      go_wp2_with fail
      refine (HS.out _).mono ?_
      rintro e w' ⟨rfl, rfl⟩
      go_wp2_with fail
      refine bodyPost_ret (results_tmp2 rfl _ _ _) rfl ?_
      exact ⟨none, 0, 0, rfl, Rd.nil _, Old.refl _⟩
end Go.Proofs.YtddemlajfbagdaaDoor
namespace Go.Proofs.YtddemlajfbagdaaDoor
set_option maxRecDepth 100000
open Go.RowKit

theorem hof_len (kind : Int) (N : Nat) (hN : hsize kind = (N : Int)) (hN1 : 1 ≤ N) : ∀ l, (rof kind l).length = N := fun l => by
  rw [rof_len_all kind (hsize_in kind (by omega)) l, hN]; rfl
theorem hmask_len (kind : Int) (N : Nat) (hN : hsize kind = (N : Int)) (hN1 : 1 ≤ N) : ∀ s k, 1 ≤ k → k ≤ 65536 → s.length ≤ 1000 → (mask kind s k).length = k := fun s k _ _ hs => mask_len kind (hsize_in kind (by omega)) s hs k
theorem encPF_ver (kind bits : Int) (hash salt : List UInt8) (h : (encPF kind bits hash salt).2 = 0) :
    VerPF kind bits hash (encPF kind bits hash salt).1 (salt.length : Int) ∧ ¬ VerPF kind bits hash (encPF kind bits hash salt).1 ((salt.length : Int) + 1) ∧ 1 ≤ (encPF kind bits hash salt).1.length ∧ (encPF kind bits hash salt).1.length ≤ 8192 := by
  unfold encPF at h ⊢
  by_cases d1 : (pssF kind bits hash.length salt.length).2 = 0
  · rw [if_pos d1]
    obtain ⟨N, n, b, hN, hN1, hN64, hm1, rfl, hB1, hB2, hp, hn, hb8, hb9⟩ := pssF_ok kind bits hash.length salt.length d1
    obtain ⟨v1, v2, v3⟩ := verP_enc N (rof kind) (mask kind) b n hash salt (hof_len kind N hN hN1) (hmask_len kind N hN hN1) hN64 hn (by omega) hb8 hb9
    rw [hN, hp, Int.toNat_natCast, Int.toNat_natCast, Int.toNat_natCast]
    refine ⟨?_, ?_, by dsimp only; omega, by dsimp only; omega⟩
    · unfold VerPF
      rw [hN, Int.toNat_natCast, Int.toNat_natCast, Int.toNat_natCast, hp]
      exact ⟨⟨by omega, by omega⟩, rfl, v2, v1⟩
    · rintro ⟨_, h2, h3, h4⟩
      rw [show ((salt.length : Int) + 1).toNat = salt.length + 1 by omega] at h2 h3 h4
      obtain ⟨N', n', b', hN', _, _, _, hb', _, _, hp', hn', hb8', hb9'⟩ := pssF_ok kind b hash.length (salt.length + 1) h2
      have e1 : b' = b := by omega
      subst e1
      rw [hp', Int.toNat_natCast] at h3 h4
      have e2 : n' = n := by dsimp only at h3; omega
      subst e2
      rw [hN, Int.toNat_natCast, Int.toNat_natCast] at h4
      obtain ⟨_, _, s, h5, h6, _⟩ := h4
      rw [v3] at h5
      injection h5 with _ h5
      rw [← h5] at h6
      omega
  · rw [if_neg d1] at h
    exact absurd h d1
theorem encOF_back (kind n : Int) (label seed m : List UInt8) (hn : n ≤ 1000) (h : (encOF kind n label seed m).2 = 0) : decOF kind label (encOF kind n label seed m).1 = (m, 0) ∧ (encOF kind n label seed m).1.length = n.toNat := by
  unfold encOF at h ⊢
  split at h
  · cases h
  · rename_i h1
    rw [if_neg h1]
    split at h
    · cases h
    · rename_i h2
      rw [if_neg h2]
      have h64 := hsize_64 kind
      obtain ⟨N, hN⟩ := Int.eq_ofNat_of_zero_le h64.1
      have hN0 : hsize kind ≠ 0 := fun e => h1 (.inl e)
      have hss : (seed.length : Int) = hsize kind := by
        by_cases e : (seed.length : Int) = hsize kind
        · exact e
        · exact absurd (Or.inr (Or.inr e)) h1
      obtain ⟨b1, b2⟩ := encO_back N (rof kind) (mask kind) n.toNat label seed m (hof_len kind N hN (by omega) label) (hmask_len kind N hN (by omega)) (by omega) (by omega) (by omega) (by omega) (by omega)
      rw [hN, Int.toNat_natCast]
      obtain ⟨EM, hEM⟩ : ∃ E, encO N (rof kind) (mask kind) n.toNat label seed m = E := ⟨_, rfl⟩
      have h0 : EM.getD 0 0 = 0 := by rw [← hEM]; rfl
      rw [hEM] at b1 b2
      rw [hEM]
      refine ⟨?_, b2⟩
      unfold decOF
      dsimp only
      rw [if_neg hN0, if_neg (by intro hx; rcases hx with hx | hx; omega; exact hx h0), hN, Int.toNat_natCast, b1]
end Go.Proofs.YtddemlajfbagdaaDoor
