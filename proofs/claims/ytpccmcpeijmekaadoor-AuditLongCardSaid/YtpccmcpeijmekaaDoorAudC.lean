/-
  Contracts of the reference's put, Head, line, Append.
  Contracts of the reference's line and Append.
  Contract of the reference's Append.
-/
import Derived.Test.YtpccmcpeijmekaaDoorAudB
namespace Go.Proofs.YtpccmcpeijmekaaDoor
open Go.RowKit

set_option maxHeartbeats 1000000 in
theorem put_any (n k : Nat) (w : World) (hn : n < 9223372036854775808) (hk : k ≤ 8) :
    Calls Tryd.prog 27 #[.int .i64 (n : Int), .int .i64 (k : Int)] w (RowRes w (beTail n k)) := by
  have hmk := fun w => Tryd.prog_make k (by omega) w
  have hki : (k : Int) ≤ 8 := by omega
  have hni : (n : Int) ≤ 9223372036854775807 := by omega
  go_enter Tryd.func27, Tryd.ntmps27
  go_wp2
  have H0 := Lib.hid (And.intro (own_make w k (by omega)) hn)
  clear hn
  go_loopw [0, 6] (fun nv i wr => ∃ j : Nat, j ≤ k ∧ i = .int .i64 ((j : Int) - 1) ∧ nv = .int .i64 ((n / 256 ^ (k - j) : Nat) : Int) ∧ Own wr w.heap.size (.slice (some ⟨w.heap.size, 0, none⟩) k k) (zs j ++ beTail n (k - j)) ∧ Below w.heap.size w wr) (fun _ i _ => (intOf i + 1).toNat)
  case atStart => exact ⟨k, by omega, rfl, by simp, by simpa [beTail] using H0.out.1, (Below.refl _ _).alloc (Nat.le_refl _) _⟩
  case round =>
    obtain ⟨j, hj, rfl, rfl, hO, hB⟩ := hrel
    rcases j with _ | j
    · rw [show (((0 : Nat) : Int) - 1) = -1 from rfl]
      have H6 := Lib.hid (And.intro hO hB)
      clear hO hB
      go_wp2
      go_ret
      have := H6.out.1
      simp only [zs, List.replicate_zero, List.nil_append, Nat.sub_zero] at this
      exact ⟨_, _, _, rfl, this, H6.out.2⟩
    · rw [show (((j + 1 : Nat) : Int) - 1) = (j : Int) from by omega]
      have hx : (zs (j + 1) ++ beTail n (k - (j + 1)))[j]? = some 0 := by
        rw [List.getElem?_append_left (by simp [zs])]; simp [zs]
      have hc := hO.cell j 0 hx
      have hfz := hO.frozen j
      have hO2 := hO.set_ j (UInt8.ofNat (n / 256 ^ (k - (j + 1)))) (by omega)
      rw [set_tail _ _ _ (by omega)] at hO2
      have hB2 := hB.setCell (p := ⟨w.heap.size, j, none⟩) (Nat.le_refl _) (B (UInt8.ofNat (n / 256 ^ (k - (j + 1)))))
      have hds := div_step n (k - (j + 1))
      rw [show k - (j + 1) + 1 = k - j from by omega] at hds
      rw [B_ofNat] at hO2 hB2
      have hq9 : ((n / 256 ^ (k - (j + 1)) : Nat) : Int) ≤ 9223372036854775807 := by
        have := Nat.div_le_self n (256 ^ (k - (j + 1)))
        omega
      generalize n / 256 ^ (k - (j + 1)) = q at *
      have hq0 : (0 : Int) ≤ q := by omega
      have hj0 : (0 : Int) ≤ j := by omega
      have hj8 : (j : Int) < k := by omega
      have H6 := Lib.hid (And.intro hO2 (And.intro hB2 hds))
      clear hO hB hO2 hB2 hx hds hmk
      go_wp2
      go_roundw
      case rel => exact ⟨j, by omega, rfl, by rw [← H6.out.2.2]; rfl, H6.out.1, H6.out.2.1⟩
      case measure => simp [intOf]
theorem rhead_any (A : Option Addr) (m c q : Nat) (l : List UInt8) (w : World) (h : Rd w A m c l) (hm : m = q * 52) (hq : m ≤ 1000000000) :
    Calls Tryd.prog 12 #[.slice A m c] w (RowRes w (lastHash l)) := by
  have hl := h.1
  have hq2 : (m : Int) / 52 = q := by omega
  have hq3 : l.length / 52 = q := by omega
  rcases Nat.eq_zero_or_pos q with rfl | hq0
  · have hmk := make32z
    have e : lastHash l = zs 32 := by unfold lastHash; rw [if_pos (by omega)]
    rw [e]
    obtain rfl : m = 0 := by omega
    clear hl e h hq3 hq2 hm hq
    go_enter Tryd.func12, Tryd.ntmps12
    go_wp2
    go_ret
    exact RowRes.of (Own.made _ 32 (by unfold maxLen; omega)) ((Below.refl _ _).alloc (Nat.le_refl _) _)
  · obtain ⟨A', c', hrun, hr'⟩ := h.cut_mid (k := q * 52 - 32) (j := q * 52) (d := 32) (by omega) (by omega)
    have e : lastHash l = (l.drop (q * 52 - 32)).take 32 := by unfold lastHash; rw [hq3, if_neg (by omega)]
    rw [← e] at hr'
    have hs2 : ∀ w, (Instr.slice 24 (.slice A m c) (some (.int .i64 ((q : Int) * 52 - 32))) (some (.int .i64 ((q : Int) * 52))) none).run Tryd.prog w = .ok (.slice A' 32 c') w := by
      intro w
      have := hrun w
      rw [show ((q * 52 - 32 : Nat) : Int) = (q : Int) * 52 - 32 by omega, show ((q * 52 : Nat) : Int) = (q : Int) * 52 by omega] at this
      exact this
    have hz : ((q : Int) == 0) = false := by simp; omega
    have hqi : (q : Int) * 52 ≤ 1000000000 := by omega
    have hqp : (52 : Int) ≤ (q : Int) * 52 := by omega
    have hqq : (q : Int) ≤ 1000000000 := by omega
    have HR := Lib.hid (And.intro hr' (lastHash_len l))
    clear hl e h hrun hr' hm hq3 hq0 hq
    go_enter Tryd.func12, Tryd.ntmps12
    go_wp2_with (at_builtin; go_must (refine wp_app2 (.const (.slice none 0 0)) (.tmp 16) w.heap.size (.slice none 0 0) [] (Own.nil _ _) (Nat.le_refl _) A' 32 c' (lastHash l) HR.out.1 (by rw [HR.out.2]; decide) rfl rfl rfl rfl ?_; intro Ap np cp w2 hnp hGp))
    go_ret
    have := hGp.own
    rw [List.nil_append] at this
    exact RowRes.of this hGp.below
set_option maxHeartbeats 1000000 in
theorem rappend_no (v : Value) (A : Option Addr) (m c q : Nat) (s t f r l : Int) (w : World) (hm : m = q * 52) (hq : m ≤ 1000000000) (hno : ¬ okE t f r l) :
    Calls Tryd.prog 8 #[.slice A m c, entV s t f r l] w (AppNo w) := by
  unfold entV
  have hmod : (m : Int) % 52 = 0 := by omega
  clear hm
  rcases okE_no hno with h1 | ⟨h1, h2⟩ | ⟨h1, h2, h3⟩ | ⟨h1, h2, h3, h4⟩ | ⟨h1, h2, h3, h4, h5⟩ | ⟨h1, h2, h3, h4, h5, h6⟩ | ⟨h1, h2, h3, h4, h5, h6, h7⟩
  all_goals
    clear hno
    go_enter Tryd.func8, Tryd.ntmps8
    go_wp2
    go_ret2
    exact ⟨rfl, (Below.refl _ _).alloc (Nat.le_refl _) _⟩
end Go.Proofs.YtpccmcpeijmekaaDoor
namespace Go.Proofs.YtpccmcpeijmekaaDoor
open Go.RowKit

theorem rd_five {w : World} {g : Nat} {A1 A2 A3 A4 A5 : Option Addr} {m1 c1 m2 c2 m3 c3 m4 c4 m5 c5 : Nat} {l1 l2 l3 l4 l5 : List UInt8} {t : TypeId} (hb : Blk w g t #[.slice A1 m1 c1, .slice A2 m2 c2, .slice A3 m3 c3, .slice A4 m4 c4, .slice A5 m5 c5])
    (h1 : Rd w A1 m1 c1 l1) (h2 : Rd w A2 m2 c2 l2) (h3 : Rd w A3 m3 c3 l3) (h4 : Rd w A4 m4 c4 l4) (h5 : Rd w A5 m5 c5 l5) : PartsAt w (some ⟨g, 0, none⟩) 5 5 [l1, l2, l3, l4, l5] := by
  refine ⟨rfl, Nat.le_refl _, by unfold maxLen; omega, fun _ => ⟨g, 0, rfl, hb.lt, fun i l'' hl => ?_⟩⟩
  match i, hl with
  | 0, hl => cases hl; exact ⟨_, _, _, hb.cell 0, h1⟩
  | 1, hl => cases hl; exact ⟨_, _, _, hb.cell 1, h2⟩
  | 2, hl => cases hl; exact ⟨_, _, _, hb.cell 2, h3⟩
  | 3, hl => cases hl; exact ⟨_, _, _, hb.cell 3, h4⟩
  | 4, hl => cases hl; exact ⟨_, _, _, hb.cell 4, h5⟩
theorem join_res (A : Option Addr) (m c : Nat) (ls : List (List UInt8)) (w : World) (hp : PartsAt w A m c ls) (hl : ls.flatten.length ≤ 1000000000) :
    Calls Tryd.prog 26 #[.slice A m c] w (RowRes w ls.flatten) :=
  (join_any A m c ls w hp (by omega)).mono fun _ _ ⟨_, he, ho, hb⟩ => by subst he; exact RowRes.of ho hb
set_option maxHeartbeats 2000000 in
theorem rline_any (A : Option Addr) (m c : Nat) (ahead : List UInt8) (seq : Nat) (s0 : Int) (e : Ent) (w : World) (hr : Rd w A m c ahead) (hm : m ≤ 1000) (hs : seq < 4294967296) (he : e.ok) :
    Calls Tryd.prog 17 #[.slice A m c, .int .i64 (seq : Int), entV s0 e.time e.fn e.rv e.slot] w (RowRes w (aline (rof 3) ahead seq e)) := by
  unfold entV
  have HH := Lib.hid (And.intro hr (And.intro hm (And.intro hs he)))
  have i1 : (seq : Int) ≤ 4294967295 := by omega
  have i2 : (e.time : Int) ≤ 9223372036854775807 := by have := he.time; omega
  have i3 : (e.fn : Int) ≤ 65535 := by have := he.fn; omega
  have i4 : (e.rv : Int) ≤ 4294967295 := by have := he.rv; omega
  have i5 : (e.slot : Int) ≤ 65535 := by have := he.slot; omega
  clear hr hm hs he
  have hW : Old w (w.alloc (.cells (entC s0 e.time e.fn e.rv e.slot) 29)) := (Below.refl _ _).alloc (Nat.le_refl _) _
  have HW := Lib.hid hW
  clear hW
  go_enter Tryd.func17, Tryd.ntmps17
  go_wp2_with fail
  refine region_old (by kernel_rfl) (fun wd hHeld hSz => ?_)
  have HSz := Lib.hid hSz
  clear hSz
  refine takeL (i := 0) (v := ?_) rfl (by kernel_rfl) (by kernel_rfl) (by kernel_rfl) (fun _ _ _ h => h) (Or.inl ⟨by rfl, ?_⟩) hHeld ?_
  rotate_left
  focus (intro wq hSw; clear hSw; go_simp; try with_reducible rfl)
  try simp only [Act.put, List.setIfInBounds_toArray, List.set_cons_zero, List.set_cons_succ]
  refine takeL (i := 2) (v := ?_) rfl (by kernel_rfl) (by kernel_rfl) (by kernel_rfl) (fun _ _ _ h => h) (Or.inl ⟨by rfl, ?_⟩) hHeld ?_
  rotate_left
  focus (intro wq hSw; clear hSw; go_simp; try with_reducible rfl)
  try simp only [Act.put, List.setIfInBounds_toArray, List.set_cons_zero, List.set_cons_succ]
  refine takeL (i := 3) (v := ?_) rfl (by kernel_rfl) (by kernel_rfl) (by kernel_rfl) (fun _ _ _ h => h) (Or.inl ⟨by rfl, ?_⟩) hHeld ?_
  rotate_left
  focus (intro wq hSw; obtain ⟨k0, k1, k2, k3, k4⟩ := entC_cells w wq s0 e.time e.fn e.rv e.slot hSw; clear hSw; go_simp; try with_reducible rfl)
  try simp only [Act.put, List.setIfInBounds_toArray, List.set_cons_zero, List.set_cons_succ]
  refine takeL (i := 5) (v := ?_) rfl (by kernel_rfl) (by kernel_rfl) (by kernel_rfl) (fun _ _ _ h => h) (Or.inl ⟨by rfl, ?_⟩) hHeld ?_
  rotate_left
  focus (intro wq hSw; clear hSw; go_simp; try with_reducible rfl)
  try simp only [Act.put, List.setIfInBounds_toArray, List.set_cons_zero, List.set_cons_succ]
  refine takeL (i := 6) (v := ?_) rfl (by kernel_rfl) (by kernel_rfl) (by kernel_rfl) (fun _ _ _ h => h) (Or.inl ⟨by rfl, ?_⟩) hHeld ?_
  rotate_left
  focus (intro wq hSw; obtain ⟨k0, k1, k2, k3, k4⟩ := entC_cells w wq s0 e.time e.fn e.rv e.slot hSw; clear hSw; go_simp; try with_reducible rfl)
  try simp only [Act.put, List.setIfInBounds_toArray, List.set_cons_zero, List.set_cons_succ]
  refine takeL (i := 8) (v := ?_) rfl (by kernel_rfl) (by kernel_rfl) (by kernel_rfl) (fun _ _ _ h => h) (Or.inl ⟨by rfl, ?_⟩) hHeld ?_
  rotate_left
  focus (intro wq hSw; clear hSw; go_simp; try with_reducible rfl)
  try simp only [Act.put, List.setIfInBounds_toArray, List.set_cons_zero, List.set_cons_succ]
  refine takeL (i := 9) (v := ?_) rfl (by kernel_rfl) (by kernel_rfl) (by kernel_rfl) (fun _ _ _ h => h) (Or.inl ⟨by rfl, ?_⟩) hHeld ?_
  rotate_left
  focus (intro wq hSw; obtain ⟨k0, k1, k2, k3, k4⟩ := entC_cells w wq s0 e.time e.fn e.rv e.slot hSw; clear hSw; go_simp; try with_reducible rfl)
  try simp only [Act.put, List.setIfInBounds_toArray, List.set_cons_zero, List.set_cons_succ]
  refine takeL (i := 11) (v := ?_) rfl (by kernel_rfl) (by kernel_rfl) (by kernel_rfl) (fun _ _ _ h => h) (Or.inl ⟨by rfl, ?_⟩) hHeld ?_
  rotate_left
  focus (intro wq hSw; clear hSw; go_simp; try with_reducible rfl)
  try simp only [Act.put, List.setIfInBounds_toArray, List.set_cons_zero, List.set_cons_succ]
  refine takeL (i := 12) (v := ?_) rfl (by kernel_rfl) (by kernel_rfl) (by kernel_rfl) (fun _ _ _ h => h) (Or.inl ⟨by rfl, ?_⟩) hHeld ?_
  rotate_left
  focus (intro wq hSw; obtain ⟨k0, k1, k2, k3, k4⟩ := entC_cells w wq s0 e.time e.fn e.rv e.slot hSw; clear hSw; go_simp; try with_reducible rfl)
  try simp only [Act.put, List.setIfInBounds_toArray, List.set_cons_zero, List.set_cons_succ]
  refine wpAnyH_ready (rs := [1]) (by kernel_rfl) (by simp) ?_
  refine consL rfl (fun K hK => ?_) AllReadyH.nil
  go_simp
  refine (put_any seq 4 _ (by first | (have := HH.out.2.2.1; omega) | (have := HH.out.2.2.2.time; omega) | (have := HH.out.2.2.2.fn; omega) | (have := HH.out.2.2.2.rv; omega) | (have := HH.out.2.2.2.slot; omega)) (by omega)).mono ?_
  rintro e1 w1 ⟨A1, n1, c1, rfl, hO1, hb1⟩
  have h1 := hHeld.trans hb1
  have X1 := Lib.hid (And.intro hO1.rd (And.intro h1 hb1))
  clear hO1 hb1 h1
  refine hK.out _ _ X1.out.2.1 (fun hHeld => ?_)
  clear hK K
  try simp only [Act.put, List.setIfInBounds_toArray, List.set_cons_zero, List.set_cons_succ]
  refine wpAnyH_ready (rs := [4]) (by kernel_rfl) (by simp) ?_
  refine consL rfl (fun K hK => ?_) AllReadyH.nil
  go_simp
  refine (put_any e.time 8 _ (by first | (have := HH.out.2.2.1; omega) | (have := HH.out.2.2.2.time; omega) | (have := HH.out.2.2.2.fn; omega) | (have := HH.out.2.2.2.rv; omega) | (have := HH.out.2.2.2.slot; omega)) (by omega)).mono ?_
  rintro e2 w2 ⟨A2, n2, c2, rfl, hO2, hb2⟩
  have h2 := hHeld.trans hb2
  have X2 := Lib.hid (And.intro hO2.rd (And.intro h2 hb2))
  clear hO2 hb2 h2
  refine hK.out _ _ X2.out.2.1 (fun hHeld => ?_)
  clear hK K
  try simp only [Act.put, List.setIfInBounds_toArray, List.set_cons_zero, List.set_cons_succ]
  refine wpAnyH_ready (rs := [7]) (by kernel_rfl) (by simp) ?_
  refine consL rfl (fun K hK => ?_) AllReadyH.nil
  go_simp
  refine (put_any e.fn 2 _ (by first | (have := HH.out.2.2.1; omega) | (have := HH.out.2.2.2.time; omega) | (have := HH.out.2.2.2.fn; omega) | (have := HH.out.2.2.2.rv; omega) | (have := HH.out.2.2.2.slot; omega)) (by omega)).mono ?_
  rintro e3 w3 ⟨A3, n3, c3, rfl, hO3, hb3⟩
  have h3 := hHeld.trans hb3
  have X3 := Lib.hid (And.intro hO3.rd (And.intro h3 hb3))
  clear hO3 hb3 h3
  refine hK.out _ _ X3.out.2.1 (fun hHeld => ?_)
  clear hK K
  try simp only [Act.put, List.setIfInBounds_toArray, List.set_cons_zero, List.set_cons_succ]
  refine wpAnyH_ready (rs := [10]) (by kernel_rfl) (by simp) ?_
  refine consL rfl (fun K hK => ?_) AllReadyH.nil
  go_simp
  refine (put_any e.rv 4 _ (by first | (have := HH.out.2.2.1; omega) | (have := HH.out.2.2.2.time; omega) | (have := HH.out.2.2.2.fn; omega) | (have := HH.out.2.2.2.rv; omega) | (have := HH.out.2.2.2.slot; omega)) (by omega)).mono ?_
  rintro e4 w4 ⟨A4, n4, c4, rfl, hO4, hb4⟩
  have h4 := hHeld.trans hb4
  have X4 := Lib.hid (And.intro hO4.rd (And.intro h4 hb4))
  clear hO4 hb4 h4
  refine hK.out _ _ X4.out.2.1 (fun hHeld => ?_)
  clear hK K
  try simp only [Act.put, List.setIfInBounds_toArray, List.set_cons_zero, List.set_cons_succ]
  refine wpAnyH_ready (rs := [13]) (by kernel_rfl) (by simp) ?_
  refine consL rfl (fun K hK => ?_) AllReadyH.nil
  go_simp
  refine (put_any e.slot 2 _ (by first | (have := HH.out.2.2.1; omega) | (have := HH.out.2.2.2.time; omega) | (have := HH.out.2.2.2.fn; omega) | (have := HH.out.2.2.2.rv; omega) | (have := HH.out.2.2.2.slot; omega)) (by omega)).mono ?_
  rintro e5 w5 ⟨A5, n5, c5, rfl, hO5, hb5⟩
  have h5 := hHeld.trans hb5
  have X5 := Lib.hid (And.intro hO5.rd (And.intro h5 hb5))
  clear hO5 hb5 h5
  refine hK.out _ _ X5.out.2.1 (fun hHeld => ?_)
  clear hK K
  try simp only [Act.put, List.setIfInBounds_toArray, List.set_cons_zero, List.set_cons_succ]
  refine wpAnyH_ready (rs := [14]) (by kernel_rfl) (by simp) ?_
  refine consL rfl (fun K hK => ?_) AllReadyH.nil
  go_simp
  refine hK.out _ _ (by repeat (first | exact hHeld | exact Old.refl _ | assumption | refine Old.drew ?_ | refine Old.drewN ?_ _ | refine Old.alloc ?_ _)) (fun hHeld => ?_)
  clear hK K
  try simp only [Act.put, List.setIfInBounds_toArray, List.set_cons_zero, List.set_cons_succ]
  refine wpAnyH_ready (rs := [15]) (by kernel_rfl) (by simp) ?_
  refine consL rfl (fun K hK => ?_) AllReadyH.nil
  go_simp
  have hblk := Blk.new w5 24 #[.slice A1 n1 c1, .slice A2 n2 c2, .slice A3 n3 c3, .slice A4 n4 c4, .slice A5 n5 c5]
  have hn5 : Old w5 (w5.alloc (.cells #[.slice A1 n1 c1, .slice A2 n2 c2, .slice A3 n3 c3, .slice A4 n4 c4, .slice A5 n5 c5] 24)) := (Below.refl _ _).alloc (Nat.le_refl _) _
  have q45 : Old w4 w5 := X5.out.2.2
  have q34 : Old w3 w5 := Old.trans X4.out.2.2 q45
  have q23 : Old w2 w5 := Old.trans X3.out.2.2 q34
  have q12 : Old w1 w5 := Old.trans X2.out.2.2 q23
  have hpp := rd_five hblk ((X1.out.1.below q12).below hn5) ((X2.out.1.below q23).below hn5) ((X3.out.1.below q34).below hn5) ((X4.out.1.below q45).below hn5) (X5.out.1.below hn5)
  refine (join_res _ 5 5 _ _ hpp (by simp [beTail_len])).mono ?_
  rintro e6 w6 ⟨A6, n6, c6, rfl, hO6, hb6⟩
  rw [show ([beTail seq 4, beTail e.time 8, beTail e.fn 2, beTail e.rv 4, beTail e.slot 2] : List (List UInt8)).flatten = hb seq e by simp [hb]] at hO6
  have h6 : Old (w.alloc (.cells (entC s0 e.time e.fn e.rv e.slot) 29)) w6 := Old.trans X5.out.2.1 (Old.trans hn5 hb6)
  have X6 := Lib.hid (And.intro (hO6.mono (Nat.le_trans (Nat.le_trans HW.out.size X5.out.2.1.size) hn5.size)) h6)
  clear hblk hpp hn5 q45 q34 q23 q12 hO6 hb6 h6
  refine hK.out _ _ X6.out.2 (fun hHeld => ?_)
  clear hK K
  try simp only [Act.put, List.setIfInBounds_toArray, List.set_cons_zero, List.set_cons_succ]
  refine takeL (i := 16) (v := ?_) rfl (by kernel_rfl) (by kernel_rfl) (by kernel_rfl) (fun _ _ _ h => h) (Or.inl ⟨by rfl, ?_⟩) hHeld ?_
  rotate_left
  focus (intro wq hSw; clear hSw; go_simp; try with_reducible rfl)
  try simp only [Act.put, List.setIfInBounds_toArray, List.set_cons_zero, List.set_cons_succ]
  refine wpAnyH_done (by kernel_rfl) ?_ _
  refine NoPanic.normal ?_
  simp only [Exit.then]
  go_wp2_with fail
  have hblk := Blk.new w6 24 #[.slice A m c, .slice A6 n6 c6]
  have hn6 : Old w6 (w6.alloc (.cells #[.slice A m c, .slice A6 n6 c6] 24)) := (Below.refl _ _).alloc (Nat.le_refl _) _
  have h06 : Old w w6 := Old.trans HW.out X6.out.2
  have hpp := rd_two hblk ((HH.out.1.below h06).below hn6) (X6.out.1.rd.below hn6)
  refine (join_res _ 2 2 _ _ hpp (by have := HH.out.1.1; have := HH.out.2.1; simp [hb_len]; omega)).mono ?_
  rintro e7 w7 ⟨A7, n7, c7, rfl, hO7, hb7⟩
  rw [show ([ahead, hb seq e] : List (List UInt8)).flatten = ahead ++ hb seq e by simp] at hO7
  have h67 : Old w6 w7 := Old.trans hn6 hb7
  have X7 := Lib.hid (And.intro hO7 (And.intro h67 h06))
  clear hblk hn6 h06 hpp hO7 hb7 h67
  go_wp2_with fail
  refine (rof_res_all 3 A7 n7 c7 _ _ X7.out.1.rd (by have := HH.out.1.1; have := HH.out.2.1; simp [hb_len]; omega)).mono ?_
  rintro e8 w8 ⟨A8, n8, c8, rfl, hO8, hb8⟩
  have h68 : Old w6 w8 := Old.trans X7.out.2.1 hb8
  have hl8 := rof_len 3 (by decide) (ahead ++ hb seq e) (by have := HH.out.1.1; have := HH.out.2.1; simp [hb_len]; omega)
  have X8 := Lib.hid (And.intro hO8 (And.intro (X6.out.1.below h68) (And.intro (Old.trans X7.out.2.2 h68) hl8)))
  clear hO8 hb8 h68 hl8
  go_wp2_with (at_builtin; go_must (refine wp_app2 (.tmp 30) (.tmp 31) w.heap.size (.slice A6 n6 c6) (hb seq e) X8.out.2.1 X8.out.2.2.1.size A8 n8 c8 _ X8.out.1.rd (by have := X8.out.2.2.2; rw [this, hb_len]; decide) rfl rfl rfl rfl ?_; intro A9 n9 c9 w9 hn9 hG9))
  go_ret
  exact RowRes.of hG9.own (Below.trans (show Below w.heap.size w w8 from X8.out.2.2.1) hG9.below)
end Go.Proofs.YtpccmcpeijmekaaDoor
namespace Go.Proofs.YtpccmcpeijmekaaDoor
open Go.RowKit
set_option maxHeartbeats 1000000 in
theorem rappend_yes (A : Option Addr) (m c q : Nat) (log : List UInt8) (s : Int) (e : Ent) (w : World) (hr : Rd w A m c log) (hm : m = q * 52) (hq : m ≤ 1000000000) (he : e.ok) :
    Calls Tryd.prog 8 #[.slice A m c, entV s e.time e.fn e.rv e.slot] w (AppYes w (addLine (rof 3) log e)) := by
  unfold entV
  have hmod : (m : Int) % 52 = 0 := by omega
  have hqm : (m : Int) / 52 = q := by omega
  have hwq : IntKind.i64.wrap (q : Int) = q := wrap_i64 _ (by omega) (by omega)
  have HH := Lib.hid (And.intro hr (And.intro he (And.intro hm hq)))
  have i2 : ¬ ((e.time : Int) < 0) := by omega
  have i3 : (e.fn : Int) ≤ 65535 := by have := he.fn; omega
  have i4 : (e.rv : Int) ≤ 4294967295 := by have := he.rv; omega
  have i5 : (e.slot : Int) ≤ 65535 := by have := he.slot; omega
  have i6 : ¬ ((e.fn : Int) < 0) := by omega
  have i7 : ¬ ((e.rv : Int) < 0) := by omega
  have i8 : ¬ ((e.slot : Int) < 0) := by omega
  have i9 : ¬ ((65535 : Int) < e.fn) := by omega
  have i10 : ¬ ((65535 : Int) < e.slot) := by omega
  have i11 : ¬ ((4294967295 : Int) < e.rv) := by omega
  clear hr hm he
  have hW : Old w (w.alloc (.cells (entC s e.time e.fn e.rv e.slot) 29)) := (Below.refl _ _).alloc (Nat.le_refl _) _
  have HW := Lib.hid hW
  clear hW
  go_enter Tryd.func8, Tryd.ntmps8
  go_wp2_with fail
  refine region_old (by kernel_rfl) (fun wd hHeld hSz => ?_)
  have HSz := Lib.hid hSz
  clear hSz
  refine takeL (i := 0) (v := ?_) rfl (by kernel_rfl) (by kernel_rfl) (by kernel_rfl) (fun _ _ _ h => h) (Or.inl ⟨by rfl, ?_⟩) hHeld ?_
  rotate_left
  focus (intro wq hSw; clear hSw; go_simp; try with_reducible rfl)
  try simp only [Act.put, List.setIfInBounds_toArray, List.set_cons_zero, List.set_cons_succ]
  refine takeL (i := 2) (v := ?_) rfl (by kernel_rfl) (by kernel_rfl) (by kernel_rfl) (fun _ _ _ h => h) (Or.inl ⟨by rfl, ?_⟩) hHeld ?_
  rotate_left
  focus (intro wq hSw; clear hSw; go_simp; try with_reducible rfl)
  try simp only [Act.put, List.setIfInBounds_toArray, List.set_cons_zero, List.set_cons_succ]
  refine takeL (i := 3) (v := ?_) rfl (by kernel_rfl) (by kernel_rfl) (by kernel_rfl) (fun _ _ _ h => h) (Or.inl ⟨by rfl, ?_⟩) hHeld ?_
  rotate_left
  focus (intro wq hSw; clear hSw; go_simp; try with_reducible rfl)
  try simp only [Act.put, List.setIfInBounds_toArray, List.set_cons_zero, List.set_cons_succ]
  refine takeL (i := 4) (v := ?_) rfl (by kernel_rfl) (by kernel_rfl) (by kernel_rfl) (fun _ _ _ h => h) (Or.inl ⟨by rfl, ?_⟩) hHeld ?_
  rotate_left
  focus (intro wq hSw; clear hSw; go_simp; try with_reducible rfl)
  try simp only [Act.put, List.setIfInBounds_toArray, List.set_cons_zero, List.set_cons_succ]
  refine takeL (i := 5) (v := ?_) rfl (by kernel_rfl) (by kernel_rfl) (by kernel_rfl) (fun _ _ _ h => h) (Or.inl ⟨by rfl, ?_⟩) hHeld ?_
  rotate_left
  focus (intro wq hSw; obtain ⟨k0, k1, k2, k3, k4⟩ := entC_cells w wq s e.time e.fn e.rv e.slot hSw; clear hSw; go_simp; try with_reducible rfl)
  try simp only [Act.put, List.setIfInBounds_toArray, List.set_cons_zero, List.set_cons_succ]
  refine wpAnyH_ready (rs := [1]) (by kernel_rfl) (by simp) ?_
  refine consL rfl (fun K hK => ?_) AllReadyH.nil
  go_simp
  refine (rhead_any A m c q log _ (HH.out.1.below (HW.out.trans hHeld)) HH.out.2.2.1 HH.out.2.2.2).mono ?_
  rintro e2 w2 ⟨A2, n2, c2, rfl, hO2, hb2⟩
  have h2 := hHeld.trans hb2
  have X2 := Lib.hid (And.intro hO2 h2)
  clear hO2 hb2 h2
  refine hK.out _ _ X2.out.2 (fun hHeld => ?_)
  clear hK K
  try simp only [Act.put, List.setIfInBounds_toArray, List.set_cons_zero, List.set_cons_succ]
  refine wpAnyH_ready (rs := [6]) (by kernel_rfl) (by simp) ?_
  refine consL rfl (fun K hK => ?_) AllReadyH.nil
  go_simp
  refine (rline_any A2 n2 c2 (lastHash log) q s e _ X2.out.1.rd (by have := X2.out.1.len; rw [lastHash_len] at this; omega) (by have := HH.out.2.2.1; have := HH.out.2.2.2; omega) HH.out.2.1).mono ?_
  rintro e4 w4 ⟨A4, n4, c4, rfl, hO4, hb4⟩
  have h4 := hHeld.trans hb4
  have hl4 := aline_len (H := rof 3) (fun l hl => rof_len 3 (by decide) l (by omega)) (lastHash log) q e (by rw [lastHash_len]; omega)
  have X4 := Lib.hid (And.intro hO4 (And.intro (Old.trans HW.out h4) (And.intro hl4 h4)))
  clear hO4 hb4 h4 hl4
  refine hK.out _ _ X4.out.2.2.2 (fun hHeld => ?_)
  clear hK K
  try simp only [Act.put, List.setIfInBounds_toArray, List.set_cons_zero, List.set_cons_succ]
  refine takeL (i := 7) (v := ?_) rfl (by kernel_rfl) (by kernel_rfl) (by kernel_rfl) (fun _ _ _ h => h) (Or.inl ⟨by rfl, ?_⟩) hHeld ?_
  rotate_left
  focus (intro wq hSw; clear hSw; go_simp; try with_reducible rfl)
  try simp only [Act.put, List.setIfInBounds_toArray, List.set_cons_zero, List.set_cons_succ]
  refine wpAnyH_done (by kernel_rfl) ?_ _
  refine NoPanic.normal ?_
  simp only [Exit.then]
  have hlm : log.length + (aline (rof 3) (lastHash log) q e).length ≤ 140737488351232 := by rw [X4.out.2.2.1]; have := HH.out.1.1; have := HH.out.2.2.2; omega
  have hll : ([] ++ log : List UInt8).length + (aline (rof 3) (lastHash log) q e).length ≤ 140737488351232 := by rw [List.nil_append]; exact hlm
  have HL := Lib.hid (And.intro hlm hll)
  clear hlm hll
  go_wp2_with (first
    | (at_builtin; have hB5 := hG5.below; go_must (refine wp_app2 (.tmp 54) (.tmp 55) w4.heap.size (.slice A5 n5 c5) ([] ++ log) hG5.own hG5.below.size A4 n4 c4 _ (X4.out.1.rd.below hG5.below) HL.out.2 rfl rfl rfl rfl ?_; intro A6 n6 c6 w6 hn6 hG6))
    | (at_builtin; go_must (refine wp_app2 (.const (.slice none 0 0)) (.tmp 53) w4.heap.size (.slice none 0 0) [] (Own.nil _ _) (Nat.le_refl _) A m c log (HH.out.1.below X4.out.2.1) (by have := HH.out.1.1; have := HH.out.2.2.2; simp; omega) rfl rfl rfl rfl ?_; intro A5 n5 c5 w5 hn5 hG5)))
  go_ret2
  have ho := hG6.own
  have e9 : ([] ++ log) ++ aline (rof 3) (lastHash log) q e = addLine (rof 3) log e := by unfold addLine; rw [← HH.out.1.1, show m / 52 = q by have := HH.out.2.2.1; omega, List.nil_append]
  rw [e9] at ho
  exact ⟨_, _, _, rfl, ho.mono X4.out.2.1.size, Below.trans (Below.trans (show Below w.heap.size w w4 from X4.out.2.1) (hG5.below.mono X4.out.2.1.size)) (hG6.below.mono X4.out.2.1.size)⟩
end Go.Proofs.YtpccmcpeijmekaaDoor
