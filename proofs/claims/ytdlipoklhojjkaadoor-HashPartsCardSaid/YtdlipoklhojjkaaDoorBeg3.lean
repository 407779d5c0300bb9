/-
  Contract of baileylaw3.begun: one hash is told.
-/
import Derived.Test.YtdlipoklhojjkaaDoorMade
import Derived.Lib.SlBytesConst
namespace Go.Proofs.YtdlipoklhojjkaaDoor
open Go.RowKit

theorem neHash (a : Addr) (w : World) : (binOp .eql 30 (.pointer (some a)) (.pointer none)).run Tryd.prog w = .ok (.bool false) w := by kernel_rfl
theorem abc_sum : (rof 3 [97, 98, 99]).take 4 = [0xba, 0x78, 0x16, 0xbf] := by decide +kernel
theorem abc_len : (rof 3 [97, 98, 99]).length = 32 := by decide +kernel
theorem hm_len : (rhmac 3 [] ([] : List (List UInt8)).flatten).length = 32 := by decide +kernel
theorem abc_parts : ((HSt.start 3).write 3 [97]).write 3 [98, 99] = writes 3 [[97], [98, 99]] := rfl
theorem rd_new {w : World} {cs : Array Value} {fr : Nat × Nat} (l : List UInt8) (hcs : cs = (l.map B).toArray) (n : Nat) (hn : n = l.length) (hl : l.length ≤ 1000000) : Rd (w.alloc (.cells cs 5 fr)) (some ⟨w.heap.size, 0, none⟩) n n l := by
  subst hcs hn
  exact Rd.of_blk (heap_alloc_new w _) (by unfold maxLen; omega)
set_option maxHeartbeats 2000000 in
theorem begun_any (w : World) (hK : KAt w) : Calls Tryd.prog 11 #[] w fun e w' => e = .returned (.bool true) ∧ Below w.heap.size w w' := by
  have HK := Lib.hid hK
  clear hK
  have hne := neHash
  have kc := fun (w : World) (C : Array Value) (n c : Nat) => Lib.run_convert_bytes_const (P := Tryd.prog) w 22 5 C n c Tryd.underlying22 Tryd.underlying5
  go_enter Tryd.func11, Tryd.ntmps11
  go_wp2_with (go_at_call 19; refine (new_made 3 _ (by decide) HK.out).mono ?_; rintro e w1 ⟨d, rfl, hM1⟩)
  have hR1 := rd_new (w := w1) (fr := (1, 2)) [97] rfl 1 rfl (by decide)
  have ho1 : Old w1 (w1.alloc (.cells #[.int .u8 97] 5 (1, 2))) := (Old.refl w1).alloc _
  refine (write_made w w1 _ d 3 _ _ _ _ _ [97] hM1 ho1 hR1 (by simp [HSt.start]) HK.out (fun ad had => by cases had; exact .inr (Nat.le_refl _))).mono ?_
  rintro e w2 ⟨rfl, wv2, hM2, hT2, _⟩
  clear hR1 ho1 hM1 hT2
  go_wp2_with fail
  have hR2 := rd_new (w := w2) (fr := (2, 3)) [98, 99] rfl 2 rfl (by decide)
  have ho2 : Old w2 (w2.alloc (.cells #[.int .u8 98, .int .u8 99] 5 (2, 3))) := (Old.refl w2).alloc _
  refine (write_made w w2 _ d 3 _ _ _ _ _ [98, 99] hM2 ho2 hR2 (by decide) HK.out (fun ad had => by cases had; exact .inr (Nat.le_refl _))).mono ?_
  rintro e w3 ⟨rfl, wv3, hM3, hT3, _⟩
  clear hR2 ho2 hM2 hT3
  go_wp2_with fail
  refine (sum_made w w3 d 3 _ _ hM3 (by decide) HK.out).mono ?_
  rintro e w4 ⟨A4, n4, c4, rfl, hO4, hb4⟩
  have hs : (((HSt.start 3).write 3 [97]).write 3 [98, 99]).sum 3 = rof 3 [97, 98, 99] := by rw [abc_parts]; exact writes_rof 3 (by decide) [[97], [98, 99]] (by decide)
  rw [hs] at hO4
  have hn4 := hO4.len
  rw [abc_len] at hn4
  subst hn4
  obtain ⟨g4, c4', he4, hc4, _⟩ := hO4.form_n 32 abc_len (by decide)
  cases he4
  have hb40 : Below w.heap.size w w4 := hM3.below.trans (hb4.mono hM3.below.size)
  have hR4 := hO4.rd
  have hR4' := (hR4.front (k := 4) (by decide))
  rw [abc_sum] at hR4'
  generalize hls : rof 3 [97, 98, 99] = ls at *
  have H4 := Lib.hid (And.intro hb40 (And.intro hR4 (And.intro hR4' hls)))
  have HK4 := Lib.hid (HK.out.below hb40)
  have eqs : ∀ w, (binOp .eql 9 (.string ⟨[0xba, 0x78, 0x16, 0xbf].toArray⟩) (.string ⟨#[186, 120, 22, 191]⟩)).run Tryd.prog w = .ok (.bool true) w := fun w => by kernel_rfl
  have hci : (4 : Int) ≤ c4 := by omega
  clear hM3 hO4 hb4 hs hc4 hb40 hR4 hR4' hls hne
  go_wp2_with fail
  refine region_old (by kernel_rfl) (fun wd hHeld hSz => ?_)
  have HSz := Lib.hid hSz
  clear hSz
  refine takeL (i := 0) (v := ?_) rfl (by kernel_rfl) (by kernel_rfl) (by kernel_rfl) (fun _ _ _ h => h) (Or.inl ⟨by rfl, ?_⟩) hHeld ?_
  rotate_left
  focus (intro wq hSw; clear hSw; go_simp; try with_reducible rfl)
  try simp only [Act.put, List.setIfInBounds_toArray, List.set_cons_zero, List.set_cons_succ]
  refine takeL (i := 1) (v := ?_) rfl (by kernel_rfl) (by kernel_rfl) (by kernel_rfl) (fun _ _ _ h => h) (Or.inl ⟨by rfl, ?_⟩) hHeld ?_
  rotate_left
  focus (intro wq hSw; clear hSw; go_simp; try with_reducible rfl)
  try simp only [Act.put, List.setIfInBounds_toArray, List.set_cons_zero, List.set_cons_succ]
  refine takeL (i := 2) (v := ?_) rfl (by kernel_rfl) (by kernel_rfl) (by kernel_rfl) (fun _ _ _ h => h) (Or.inl ⟨by rfl, ?_⟩) hHeld ?_
  rotate_left
  focus (intro wq hSw; clear hSw; go_simp; try with_reducible rfl)
  try simp only [Act.put, List.setIfInBounds_toArray, List.set_cons_zero, List.set_cons_succ]
  refine takeL (i := 3) (v := ?_) rfl (by kernel_rfl) (by kernel_rfl) (by kernel_rfl) (fun _ _ _ h => h) (Or.inl ⟨by rfl, ?_⟩) hHeld ?_
  rotate_left
  focus (intro wq hSw; clear hSw; go_simp; try with_reducible rfl)
  try simp only [Act.put, List.setIfInBounds_toArray, List.set_cons_zero, List.set_cons_succ]
  refine takeL (i := 4) (v := ?_) rfl (by kernel_rfl) (by kernel_rfl) (by kernel_rfl) (fun _ _ _ h => h) (Or.inl ⟨by rfl, ?_⟩) hHeld ?_
  rotate_left
  focus (intro wq hSw; clear hSw; go_simp; try with_reducible rfl)
  try simp only [Act.put, List.setIfInBounds_toArray, List.set_cons_zero, List.set_cons_succ]
  refine takeL (i := 5) (v := ?_) rfl (by kernel_rfl) (by kernel_rfl) (by kernel_rfl) (fun _ _ _ h => h) (Or.inl ⟨by rfl, ?_⟩) hHeld ?_
  rotate_left
  focus (intro wq hSw; clear hSw; go_simp; try with_reducible rfl)
  try simp only [Act.put, List.setIfInBounds_toArray, List.set_cons_zero, List.set_cons_succ]
  refine takeL (i := 6) (v := ?_) rfl (by kernel_rfl) (by kernel_rfl) (by kernel_rfl) (fun _ _ _ h => h) (Or.inl ⟨by rfl, ?_⟩) hHeld ?_
  rotate_left
  focus (intro wq hSw; have hRun := H4.out.2.2.1.str_below hSw; clear hSw; go_simp; try with_reducible rfl)
  try simp only [Act.put, List.setIfInBounds_toArray, List.set_cons_zero, List.set_cons_succ]
  refine takeL (i := 7) (v := ?_) rfl (by kernel_rfl) (by kernel_rfl) (by kernel_rfl) (fun _ _ _ h => h) (Or.inl ⟨by rfl, ?_⟩) hHeld ?_
  rotate_left
  focus (intro wq hSw; have hRun := eqs wq; clear hSw; go_simp; try with_reducible rfl)
  try simp only [Act.put, List.setIfInBounds_toArray, List.set_cons_zero, List.set_cons_succ]
  refine takeL (i := 8) (v := ?_) rfl (by kernel_rfl) (by kernel_rfl) (by kernel_rfl) (fun _ _ _ h => h) (Or.inl ⟨by rfl, ?_⟩) hHeld ?_
  rotate_left
  focus (intro wq hSw; clear hSw; go_simp; try with_reducible rfl)
  try simp only [Act.put, List.setIfInBounds_toArray, List.set_cons_zero, List.set_cons_succ]
  refine takeL (i := 9) (v := ?_) rfl (by kernel_rfl) (by kernel_rfl) (by kernel_rfl) (fun _ _ _ h => h) (Or.inl ⟨by rfl, ?_⟩) hHeld ?_
  rotate_left
  focus (intro wq hSw; clear hSw; go_simp; try with_reducible rfl)
  try simp only [Act.put, List.setIfInBounds_toArray, List.set_cons_zero, List.set_cons_succ]
  refine takeL (i := 15) (v := ?_) rfl (by kernel_rfl) (by kernel_rfl) (by kernel_rfl) (fun _ _ _ h => h) (Or.inl ⟨by rfl, ?_⟩) hHeld ?_
  rotate_left
  focus (intro wq hSw; clear hSw; go_simp; try with_reducible rfl)
  try simp only [Act.put, List.setIfInBounds_toArray, List.set_cons_zero, List.set_cons_succ]
  refine takeL (i := 16) (v := ?_) rfl (by kernel_rfl) (by kernel_rfl) (by kernel_rfl) (fun _ _ _ h => h) (Or.inl ⟨by rfl, ?_⟩) hHeld ?_
  rotate_left
  focus (intro wq hSw; have hRun := H4.out.2.1.str_below hSw; clear hSw; go_simp; try with_reducible rfl)
  try simp only [Act.put, List.setIfInBounds_toArray, List.set_cons_zero, List.set_cons_succ]
  refine wpAnyH_ready (rs := [10]) (by kernel_rfl) (by simp) ?_
  refine consL rfl (fun K hK => ?_) AllReadyH.nil
  go_simp
  refine hK.out _ _ (by repeat (first | exact hHeld | exact Old.refl _ | assumption | refine Old.drew ?_ | refine Old.drewN ?_ _ | refine Old.alloc ?_ _)) (fun hHeld => ?_)
  clear hK K
  try simp only [Act.put, List.setIfInBounds_toArray, List.set_cons_zero, List.set_cons_succ]
  refine wpAnyH_ready (rs := [11]) (by kernel_rfl) (by simp) ?_
  refine consL rfl (fun K hK => ?_) AllReadyH.nil
  go_simp
  refine hK.out _ _ (by repeat (first | exact hHeld | exact Old.refl _ | assumption | refine Old.drew ?_ | refine Old.drewN ?_ _ | refine Old.alloc ?_ _)) (fun hHeld => ?_)
  clear hK K
  try simp only [Act.put, List.setIfInBounds_toArray, List.set_cons_zero, List.set_cons_succ]
  refine wpAnyH_ready (rs := [12]) (by kernel_rfl) (by simp) ?_
  refine consL rfl (fun K hK => ?_) AllReadyH.nil
  go_simp
  refine hK.out _ _ (by repeat (first | exact hHeld | exact Old.refl _ | assumption | refine Old.drew ?_ | refine Old.drewN ?_ _ | refine Old.alloc ?_ _)) (fun hHeld => ?_)
  clear hK K
  try simp only [Act.put, List.setIfInBounds_toArray, List.set_cons_zero, List.set_cons_succ]
  refine wpAnyH_ready (rs := [13]) (by kernel_rfl) (by simp) ?_
  refine consL rfl (fun K hK => ?_) AllReadyH.nil
  go_simp
  have hrn := (rd_new (w := wd) (fr := (3, 4)) [97, 98, 99] rfl 3 rfl (by decide))
  have hblk := Blk.new (wd.alloc (.cells #[.int .u8 97, .int .u8 98, .int .u8 99] 5 (3, 4))) 22 #[.slice (some ⟨wd.heap.size, 0, none⟩) 3 3]
  simp only [World.size_alloc] at hblk
  have hpp := rd_one hblk (hrn.below ((Below.refl _ _).alloc (Nat.le_refl _) (.cells #[.slice (some ⟨wd.heap.size, 0, none⟩) 3 3] 22)))
  refine (of_res 3 (by decide) _ 1 1 [[97, 98, 99]] _ hpp (by decide) (HK4.out.below hHeld)).mono ?_
  rintro e w5 ⟨A5, n5, c5, rfl, hO5, hb5⟩
  clear hrn hblk hpp
  rw [show rof 3 ([[97, 98, 99]] : List (List UInt8)).flatten = ls from H4.out.2.2.2] at hO5
  have hb5' : Old w4 w5 := hHeld.trans hb5
  refine hK.out _ _ hb5' (fun hHeld => ?_)
  clear hK K
  try simp only [Act.put, List.setIfInBounds_toArray, List.set_cons_zero, List.set_cons_succ]
  refine wpAnyH_old (w1 := w5) hb5' (fun hHeld => ?_) (Old.refl _)
  refine takeL (i := 14) (v := ?_) rfl (by kernel_rfl) (by kernel_rfl) (by kernel_rfl) (fun _ _ _ h => h) (Or.inl ⟨by rfl, ?_⟩) hHeld ?_
  rotate_left
  focus (intro wq hSw; have hRun := hO5.rd.str_below hSw; clear hSw; go_simp; try with_reducible rfl)
  try simp only [Act.put, List.setIfInBounds_toArray, List.set_cons_zero, List.set_cons_succ]
  refine takeL (i := 17) (v := ?_) rfl (by kernel_rfl) (by kernel_rfl) (by kernel_rfl) (fun _ _ _ h => h) (Or.inl ⟨by rfl, ?_⟩) hHeld ?_
  rotate_left
  focus (intro wq hSw; clear hSw; go_simp; try with_reducible rfl)
  try simp only [Act.put, List.setIfInBounds_toArray, List.set_cons_zero, List.set_cons_succ]
  refine takeL (i := 18) (v := ?_) rfl (by kernel_rfl) (by kernel_rfl) (by kernel_rfl) (fun _ _ _ h => h) (Or.inl ⟨by rfl, ?_⟩) hHeld ?_
  rotate_left
  focus (intro wq hSw; clear hSw; go_simp; try with_reducible rfl)
  try simp only [Act.put, List.setIfInBounds_toArray, List.set_cons_zero, List.set_cons_succ]
  refine takeL (i := 19) (v := ?_) rfl (by kernel_rfl) (by kernel_rfl) (by kernel_rfl) (fun _ _ _ h => h) (Or.inl ⟨by rfl, ?_⟩) hHeld ?_
  rotate_left
  focus (intro wq hSw; clear hSw; go_simp; try with_reducible rfl)
  try simp only [Act.put, List.setIfInBounds_toArray, List.set_cons_zero, List.set_cons_succ]
  refine wpAnyH_ready (rs := [20]) (by kernel_rfl) (by simp) ?_
  refine consL rfl (fun K hK => ?_) AllReadyH.nil
  go_simp
  refine (size_any 1 _).mono ?_
  rintro e w' ⟨rfl, rfl⟩
  rw [show hsize 1 = 20 from rfl]
  refine hK.out _ _ (by repeat (first | exact hHeld | exact Old.refl _ | assumption | refine Old.drew ?_ | refine Old.drewN ?_ _ | refine Old.alloc ?_ _)) (fun hHeld => ?_)
  clear hK K
  try simp only [Act.put, List.setIfInBounds_toArray, List.set_cons_zero, List.set_cons_succ]
  refine takeL (i := 21) (v := ?_) rfl (by kernel_rfl) (by kernel_rfl) (by kernel_rfl) (fun _ _ _ h => h) (Or.inl ⟨by rfl, ?_⟩) hHeld ?_
  rotate_left
  focus (intro wq hSw; clear hSw; go_simp; try with_reducible rfl)
  try simp only [Act.put, List.setIfInBounds_toArray, List.set_cons_zero, List.set_cons_succ]
  refine takeL (i := 22) (v := ?_) rfl (by kernel_rfl) (by kernel_rfl) (by kernel_rfl) (fun _ _ _ h => h) (Or.inl ⟨by rfl, ?_⟩) hHeld ?_
  rotate_left
  focus (intro wq hSw; clear hSw; go_simp; try with_reducible rfl)
  try simp only [Act.put, List.setIfInBounds_toArray, List.set_cons_zero, List.set_cons_succ]
  refine takeL (i := 23) (v := ?_) rfl (by kernel_rfl) (by kernel_rfl) (by kernel_rfl) (fun _ _ _ h => h) (Or.inl ⟨by rfl, ?_⟩) hHeld ?_
  rotate_left
  focus (intro wq hSw; clear hSw; go_simp; try with_reducible rfl)
  try simp only [Act.put, List.setIfInBounds_toArray, List.set_cons_zero, List.set_cons_succ]
  refine wpAnyH_ready (rs := [24]) (by kernel_rfl) (by simp) ?_
  refine consL rfl (fun K hK => ?_) AllReadyH.nil
  go_simp
  refine (hmac_res 3 (by decide) none 0 0 [] none 0 0 [] w5 (Rd.nil _) (by decide) ⟨rfl, Nat.le_refl _, Nat.zero_le _, fun h => absurd h (by omega)⟩ (by decide) (HK4.out.below hb5')).mono ?_
  rintro e w6 ⟨A6, n6, c6, rfl, hO6, hb6⟩
  have hn6 := hO6.len
  rw [hm_len] at hn6
  subst hn6
  have hb6' : Old w4 w6 := hb5'.trans hb6
  refine hK.out _ _ hb6 (fun hHeld => ?_)
  clear hK K
  try simp only [Act.put, List.setIfInBounds_toArray, List.set_cons_zero, List.set_cons_succ]
  refine takeL (i := 25) (v := ?_) rfl (by kernel_rfl) (by kernel_rfl) (by kernel_rfl) (fun _ _ _ h => h) (Or.inl ⟨by rfl, ?_⟩) hHeld ?_
  rotate_left
  focus (intro wq hSw; clear hSw; go_simp; try with_reducible rfl)
  try simp only [Act.put, List.setIfInBounds_toArray, List.set_cons_zero, List.set_cons_succ]
  refine takeL (i := 26) (v := ?_) rfl (by kernel_rfl) (by kernel_rfl) (by kernel_rfl) (fun _ _ _ h => h) (Or.inl ⟨by rfl, ?_⟩) hHeld ?_
  rotate_left
  focus (intro wq hSw; clear hSw; go_simp; try with_reducible rfl)
  try simp only [Act.put, List.setIfInBounds_toArray, List.set_cons_zero, List.set_cons_succ]
  refine takeL (i := 27) (v := ?_) rfl (by kernel_rfl) (by kernel_rfl) (by kernel_rfl) (fun _ _ _ h => h) (Or.inl ⟨by rfl, ?_⟩) hHeld ?_
  rotate_left
  focus (intro wq hSw; clear hSw; go_simp; try with_reducible rfl)
  try simp only [Act.put, List.setIfInBounds_toArray, List.set_cons_zero, List.set_cons_succ]
  refine takeL (i := 28) (v := ?_) rfl (by kernel_rfl) (by kernel_rfl) (by kernel_rfl) (fun _ _ _ h => h) (Or.inl ⟨by rfl, ?_⟩) hHeld ?_
  rotate_left
  focus (intro wq hSw; clear hSw; go_simp; try with_reducible rfl)
  try simp only [Act.put, List.setIfInBounds_toArray, List.set_cons_zero, List.set_cons_succ]
  refine wpAnyH_done (by kernel_rfl) ?_ _
  refine NoPanic.normal ?_
  simp only [Exit.then]
  go_wp2_with fail
  go_ret
  exact ⟨rfl, H4.out.1.trans (Below.mono hb6' H4.out.1.size)⟩
end Go.Proofs.YtdlipoklhojjkaaDoor
