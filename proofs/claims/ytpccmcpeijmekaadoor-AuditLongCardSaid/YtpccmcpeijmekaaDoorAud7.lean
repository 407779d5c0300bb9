/-
  Contract of audit.read: what a line says.
-/
import Derived.Test.YtpccmcpeijmekaaDoorAudC
namespace Go.Proofs.YtpccmcpeijmekaaDoor
open Go.RowKit

theorem Rd.cut_at {w : World} {A : Option Addr} {m c k : Nat} {l : List UInt8} (h : Rd w A m c l) (hk : k < m) :
    ∃ b' off' n' c', n' = m - k ∧ (∀ w, (Instr.slice 24 (.slice A m c) (some (.int .i64 (k : Int))) none none).run Tryd.prog w = .ok (.slice (some ⟨b', off', none⟩) n' c') w) ∧ At w b' off' (l.drop k) := by
  obtain ⟨A', n', c', hn, hrun, hr, _⟩ := h.cut_ex2 (k := k) (by omega)
  obtain ⟨b', off', rfl, hat⟩ := hr.addr (by omega)
  exact ⟨b', off', n', c', hn, hrun, hat⟩
theorem word32_drop (l : List UInt8) (k : Nat) : word32 (l.drop k) 0 = word32 l k := by simp [word32, List.getD, List.getElem?_drop]
theorem word64_drop (l : List UInt8) (k : Nat) : word64 (l.drop k) 0 = word64 l k := by simp [word64, List.getD, List.getElem?_drop]
theorem word16_drop (l : List UInt8) (k : Nat) : word16 (l.drop k) 0 = word16 l k := by simp [word16, List.getD, List.getElem?_drop]
@[go_sem] theorem Tryd.conv_32_rv (w : World) (x : UInt32) : (convert 49 27 (U32 x)).run Tryd.prog w = .ok (.int .i64 (x.toNat : Int)) w := conv_U32_int w Tryd.underlying49 Tryd.underlying27 x
theorem At.old {w w' : World} {b off : Nat} {l : List UInt8} (h : At w b off l) (ho : Old w w') : At w' b off l := h.keep ho.size (ho.block b h.1)
theorem region_oldOf {P : Program} {ops : Array Oper} {Q : Exit → Act → World → Prop} {id : Nat} {a : Act} {w0 w : World} (h0 : Old w0 w) (hm : P.follows .mixedOrders = true)
    (h : ∀ wd, Old w0 wd → wd.heap = w.heap → wpAnyH P .any ops (NoPanic Q) (Old w0) ops.size (Array.replicate ops.size false) a wd) : (Code.region id ops true).wp P Q a w :=
  wp_region_noPanic (wp_region_held_drew hm (Old.drew h0) (fun hS => h _ hS rfl))
theorem word64_top (l : List UInt8) (k : Nat) (h : (l.getD k 0).toNat < 128) : (word64 l k).toNat < 9223372036854775808 := by
  rw [word64_nat, word32_nat]
  have h1 := (l.getD (k + 1) 0).toNat_lt
  have h2 := (l.getD (k + 2) 0).toNat_lt
  have h3 := (l.getD (k + 3) 0).toNat_lt
  have h4 := (word32 l (k + 4)).toNat_lt
  omega
def rdV (b : List UInt8) : Value := entV (rdE b).seq (rdE b).time (rdE b).fn (rdE b).rv (rdE b).slot
/-- What read gives. -/
def ReadRes (w : World) (b : List UInt8) (e : Ending) (w' : World) : Prop := e = .returned (rdV b) ∧ Below w.heap.size w w'
set_option maxHeartbeats 1000000 in
theorem read_any (A : Option Addr) (m c : Nat) (b : List UInt8) (w : World) (hr : Rd w A m c b) (hm : 20 ≤ m) (ht : (b.getD 4 0).toNat < 128) :
    Calls Tryd.prog 21 #[.slice A m c] w (ReadRes w b) := by
  have hl := hr.1
  obtain ⟨b0, o0, rfl, hat0⟩ := hr.addr (by omega)
  obtain ⟨b1, o1, n1, c1, hn1, hrun1, hat1⟩ := hr.cut_at (k := 4) (by omega)
  obtain ⟨b2, o2, n2, c2, hn2, hrun2, hat2⟩ := hr.cut_at (k := 12) (by omega)
  obtain ⟨b3, o3, n3, c3, hn3, hrun3, hat3⟩ := hr.cut_at (k := 14) (by omega)
  obtain ⟨b4, o4, n4, c4, hn4, hrun4, hat4⟩ := hr.cut_at (k := 18) (by omega)
  rw [show ((4 : Nat) : Int) = 4 from rfl] at hrun1
  rw [show ((12 : Nat) : Int) = 12 from rfl] at hrun2
  rw [show ((14 : Nat) : Int) = 14 from rfl] at hrun3
  rw [show ((18 : Nat) : Int) = 18 from rfl] at hrun4
  have G0 := Lib.hid (fun (w' : World) (ho : Old w w') => get32_any b0 o0 m c b w' (hat0.old ho) hl (by omega))
  have G1 := Lib.hid (fun (w' : World) (ho : Old w w') => get64_any b1 o1 n1 c1 _ w' (hat1.old ho) (by rw [List.length_drop]; omega) (by omega))
  have G2 := Lib.hid (fun (w' : World) (ho : Old w w') => get16_any b2 o2 n2 c2 _ w' (hat2.old ho) (by rw [List.length_drop]; omega) (by omega))
  have G3 := Lib.hid (fun (w' : World) (ho : Old w w') => get32_any b3 o3 n3 c3 _ w' (hat3.old ho) (by rw [List.length_drop]; omega) (by omega))
  have G4 := Lib.hid (fun (w' : World) (ho : Old w w') => get16_any b4 o4 n4 c4 _ w' (hat4.old ho) (by rw [List.length_drop]; omega) (by omega))
  rw [word64_drop] at G1
  rw [word16_drop] at G2
  rw [word32_drop] at G3
  rw [word16_drop] at G4
  have htop := word64_top b 4 ht
  have hX : rdV b = .agg #[.int .i64 ((word32 b 0).toNat : Int), .int .i64 ((word64 b 4).toNat : Int), .int .i64 ((word16 b 12).toNat : Int), .int .i64 ((word32 b 14).toNat : Int), .int .i64 ((word16 b 18).toNat : Int)] := rfl
  unfold ReadRes
  rw [hX]
  generalize word32 b 0 = x0 at *
  generalize word64 b 4 = x1 at *
  generalize word16 b 12 = x2 at *
  generalize word32 b 14 = x3 at *
  generalize word16 b 18 = x4 at *
  have hcv : ∀ w, (convert 51 2 (U64 x1)).run Tryd.prog w = .ok (.int .i64 (x1.toNat : Int)) w := fun w => conv_U64_int w Tryd.underlying51 Tryd.underlying2 x1 htop
  clear hX htop ht hat0 hat1 hat2 hat3 hat4 hn1 hn2 hn3 hn4 hl hr hm
  go_enter Tryd.func21, Tryd.ntmps21
  go_wp2_with fail
  have hW : Old w (w.alloc (.cells #[.int .i64 0, .int .i64 0, .int .i64 0, .int .i64 0, .int .i64 0] 29)) := (Below.refl _ _).alloc (Nat.le_refl _) _
  refine region_oldOf hW (by kernel_rfl) (fun wd hHeld hSz => ?_)
  have B0 := Lib.hid (show Blk wd w.heap.size 29 #[.int .i64 0, .int .i64 0, .int .i64 0, .int .i64 0, .int .i64 0] from (Blk.new w 29 #[.int .i64 0, .int .i64 0, .int .i64 0, .int .i64 0, .int .i64 0]).keep (by rw [hSz]))
  clear hSz
  refine takeL (i := 0) (v := ?_) rfl (by kernel_rfl) (by kernel_rfl) (by kernel_rfl) (fun _ _ _ h => h) (Or.inl ⟨by rfl, ?_⟩) hHeld ?_
  rotate_left
  focus (intro wq hSw; clear hSw; go_simp; try with_reducible rfl)
  try simp only [Act.put, List.setIfInBounds_toArray, List.set_cons_zero, List.set_cons_succ]
  refine takeL (i := 3) (v := ?_) rfl (by kernel_rfl) (by kernel_rfl) (by kernel_rfl) (fun _ _ _ h => h) (Or.inl ⟨by rfl, ?_⟩) hHeld ?_
  rotate_left
  focus (intro wq hSw; clear hSw; go_simp; try with_reducible rfl)
  try simp only [Act.put, List.setIfInBounds_toArray, List.set_cons_zero, List.set_cons_succ]
  refine takeL (i := 4) (v := ?_) rfl (by kernel_rfl) (by kernel_rfl) (by kernel_rfl) (fun _ _ _ h => h) (Or.inl ⟨by rfl, ?_⟩) hHeld ?_
  rotate_left
  focus (intro wq hSw; have hRun := hrun1 wq; clear hSw; go_simp; try with_reducible rfl)
  try simp only [Act.put, List.setIfInBounds_toArray, List.set_cons_zero, List.set_cons_succ]
  refine takeL (i := 7) (v := ?_) rfl (by kernel_rfl) (by kernel_rfl) (by kernel_rfl) (fun _ _ _ h => h) (Or.inl ⟨by rfl, ?_⟩) hHeld ?_
  rotate_left
  focus (intro wq hSw; clear hSw; go_simp; try with_reducible rfl)
  try simp only [Act.put, List.setIfInBounds_toArray, List.set_cons_zero, List.set_cons_succ]
  refine takeL (i := 8) (v := ?_) rfl (by kernel_rfl) (by kernel_rfl) (by kernel_rfl) (fun _ _ _ h => h) (Or.inl ⟨by rfl, ?_⟩) hHeld ?_
  rotate_left
  focus (intro wq hSw; have hRun := hrun2 wq; clear hSw; go_simp; try with_reducible rfl)
  try simp only [Act.put, List.setIfInBounds_toArray, List.set_cons_zero, List.set_cons_succ]
  refine takeL (i := 11) (v := ?_) rfl (by kernel_rfl) (by kernel_rfl) (by kernel_rfl) (fun _ _ _ h => h) (Or.inl ⟨by rfl, ?_⟩) hHeld ?_
  rotate_left
  focus (intro wq hSw; clear hSw; go_simp; try with_reducible rfl)
  try simp only [Act.put, List.setIfInBounds_toArray, List.set_cons_zero, List.set_cons_succ]
  refine takeL (i := 12) (v := ?_) rfl (by kernel_rfl) (by kernel_rfl) (by kernel_rfl) (fun _ _ _ h => h) (Or.inl ⟨by rfl, ?_⟩) hHeld ?_
  rotate_left
  focus (intro wq hSw; have hRun := hrun3 wq; clear hSw; go_simp; try with_reducible rfl)
  try simp only [Act.put, List.setIfInBounds_toArray, List.set_cons_zero, List.set_cons_succ]
  refine takeL (i := 15) (v := ?_) rfl (by kernel_rfl) (by kernel_rfl) (by kernel_rfl) (fun _ _ _ h => h) (Or.inl ⟨by rfl, ?_⟩) hHeld ?_
  rotate_left
  focus (intro wq hSw; clear hSw; go_simp; try with_reducible rfl)
  try simp only [Act.put, List.setIfInBounds_toArray, List.set_cons_zero, List.set_cons_succ]
  refine takeL (i := 16) (v := ?_) rfl (by kernel_rfl) (by kernel_rfl) (by kernel_rfl) (fun _ _ _ h => h) (Or.inl ⟨by rfl, ?_⟩) hHeld ?_
  rotate_left
  focus (intro wq hSw; have hRun := hrun4 wq; clear hSw; go_simp; try with_reducible rfl)
  try simp only [Act.put, List.setIfInBounds_toArray, List.set_cons_zero, List.set_cons_succ]
  refine wpAnyH_ready (rs := [1]) (by kernel_rfl) (by simp) ?_
  refine consL rfl (fun K hK => ?_) AllReadyH.nil
  go_simp
  refine (G0.out _ hHeld).mono ?_
  rintro e w1 ⟨rfl, k0, hw0⟩
  have hb0 : Old w w1 := by rw [hw0]; exact hHeld.drewN _
  have B1 := Lib.hid (show Blk w1 w.heap.size 29 #[.int .i64 0, .int .i64 0, .int .i64 0, .int .i64 0, .int .i64 0] by rw [hw0]; exact B0.out.drewN _)
  clear hw0
  refine hK.out _ _ hb0 (fun hHeld => ?_)
  clear hK K
  try simp only [Act.put, List.setIfInBounds_toArray, List.set_cons_zero, List.set_cons_succ]
  refine takeL (i := 2) (v := ?_) rfl (by kernel_rfl) (by kernel_rfl) (by kernel_rfl) (fun _ _ _ h => h) (Or.inl ⟨by rfl, ?_⟩) hHeld ?_
  rotate_left
  focus (intro wq hSw; clear hSw; go_simp; try with_reducible rfl)
  try simp only [Act.put, List.setIfInBounds_toArray, List.set_cons_zero, List.set_cons_succ]
  refine wpAnyH_ready (rs := [5]) (by kernel_rfl) (by simp) ?_
  refine consL rfl (fun K hK => ?_) AllReadyH.nil
  go_simp
  refine (G1.out _ hHeld).mono ?_
  rintro e w2 ⟨rfl, k1, hw1⟩
  have hb1 : Old w w2 := by rw [hw1]; exact hHeld.drewN _
  have B2 := Lib.hid (show Blk w2 w.heap.size 29 #[.int .i64 0, .int .i64 0, .int .i64 0, .int .i64 0, .int .i64 0] by rw [hw1]; exact B1.out.drewN _)
  clear hw1
  refine hK.out _ _ hb1 (fun hHeld => ?_)
  clear hK K
  try simp only [Act.put, List.setIfInBounds_toArray, List.set_cons_zero, List.set_cons_succ]
  refine takeL (i := 6) (v := ?_) rfl (by kernel_rfl) (by kernel_rfl) (by kernel_rfl) (fun _ _ _ h => h) (Or.inl ⟨by rfl, ?_⟩) hHeld ?_
  rotate_left
  focus (intro wq hSw; clear hSw; go_simp; try with_reducible rfl)
  try simp only [Act.put, List.setIfInBounds_toArray, List.set_cons_zero, List.set_cons_succ]
  refine wpAnyH_ready (rs := [9]) (by kernel_rfl) (by simp) ?_
  refine consL rfl (fun K hK => ?_) AllReadyH.nil
  go_simp
  refine (G2.out _ hHeld).mono ?_
  rintro e w3 ⟨rfl, k2, hw2⟩
  have hb2 : Old w w3 := by rw [hw2]; exact hHeld.drewN _
  have B3 := Lib.hid (show Blk w3 w.heap.size 29 #[.int .i64 0, .int .i64 0, .int .i64 0, .int .i64 0, .int .i64 0] by rw [hw2]; exact B2.out.drewN _)
  clear hw2
  refine hK.out _ _ hb2 (fun hHeld => ?_)
  clear hK K
  try simp only [Act.put, List.setIfInBounds_toArray, List.set_cons_zero, List.set_cons_succ]
  refine takeL (i := 10) (v := ?_) rfl (by kernel_rfl) (by kernel_rfl) (by kernel_rfl) (fun _ _ _ h => h) (Or.inl ⟨by rfl, ?_⟩) hHeld ?_
  rotate_left
  focus (intro wq hSw; clear hSw; go_simp; try with_reducible rfl)
  try simp only [Act.put, List.setIfInBounds_toArray, List.set_cons_zero, List.set_cons_succ]
  refine wpAnyH_ready (rs := [13]) (by kernel_rfl) (by simp) ?_
  refine consL rfl (fun K hK => ?_) AllReadyH.nil
  go_simp
  refine (G3.out _ hHeld).mono ?_
  rintro e w4 ⟨rfl, k3, hw3⟩
  have hb3 : Old w w4 := by rw [hw3]; exact hHeld.drewN _
  have B4 := Lib.hid (show Blk w4 w.heap.size 29 #[.int .i64 0, .int .i64 0, .int .i64 0, .int .i64 0, .int .i64 0] by rw [hw3]; exact B3.out.drewN _)
  clear hw3
  refine hK.out _ _ hb3 (fun hHeld => ?_)
  clear hK K
  try simp only [Act.put, List.setIfInBounds_toArray, List.set_cons_zero, List.set_cons_succ]
  refine takeL (i := 14) (v := ?_) rfl (by kernel_rfl) (by kernel_rfl) (by kernel_rfl) (fun _ _ _ h => h) (Or.inl ⟨by rfl, ?_⟩) hHeld ?_
  rotate_left
  focus (intro wq hSw; clear hSw; go_simp; try with_reducible rfl)
  try simp only [Act.put, List.setIfInBounds_toArray, List.set_cons_zero, List.set_cons_succ]
  refine wpAnyH_ready (rs := [17]) (by kernel_rfl) (by simp) ?_
  refine consL rfl (fun K hK => ?_) AllReadyH.nil
  go_simp
  refine (G4.out _ hHeld).mono ?_
  rintro e w5 ⟨rfl, k4, hw4⟩
  have hb4 : Old w w5 := by rw [hw4]; exact hHeld.drewN _
  have B5 := Lib.hid (show Blk w5 w.heap.size 29 #[.int .i64 0, .int .i64 0, .int .i64 0, .int .i64 0, .int .i64 0] by rw [hw4]; exact B4.out.drewN _)
  clear hw4
  refine hK.out _ _ hb4 (fun hHeld => ?_)
  clear hK K
  try simp only [Act.put, List.setIfInBounds_toArray, List.set_cons_zero, List.set_cons_succ]
  refine takeL (i := 18) (v := ?_) rfl (by kernel_rfl) (by kernel_rfl) (by kernel_rfl) (fun _ _ _ h => h) (Or.inl ⟨by rfl, ?_⟩) hHeld ?_
  rotate_left
  focus (intro wq hSw; clear hSw; go_simp; try with_reducible rfl)
  try simp only [Act.put, List.setIfInBounds_toArray, List.set_cons_zero, List.set_cons_succ]
  refine takeL (i := 19) (v := ?_) rfl (by kernel_rfl) (by kernel_rfl) (by kernel_rfl) (fun _ _ _ h => h) (Or.inl ⟨by rfl, ?_⟩) hHeld ?_
  rotate_left
  focus (intro wq hSw; clear hSw; go_simp; try with_reducible rfl)
  try simp only [Act.put, List.setIfInBounds_toArray, List.set_cons_zero, List.set_cons_succ]
  have hc0 := B5.out.cell 0
  have hc1 := B5.out.cell 1
  have hc2 := B5.out.cell 2
  have hc3 := B5.out.cell 3
  have hc4 := B5.out.cell 4
  have hf0 := B5.out.frozen 0
  have hf1 := B5.out.frozen 1
  have hf2 := B5.out.frozen 2
  have hf3 := B5.out.frozen 3
  have hf4 := B5.out.frozen 4
  simp only [List.getElem?_toArray, List.getElem?_cons_zero, List.getElem?_cons_succ] at hc0 hc1 hc2 hc3 hc4
  refine wpAnyH_ready (rs := [20]) (by kernel_rfl) (by simp) ?_
  refine consL rfl (fun K hK => ?_) AllReadyH.nil
  go_simp
  have hB6 : Blk (((((w5.setCell ⟨w.heap.size, 0, none⟩ (.int .i64 (x0.toNat : Int))).setCell ⟨w.heap.size, 1, none⟩ (.int .i64 (x1.toNat : Int))).setCell ⟨w.heap.size, 2, none⟩ (.int .i64 (x2.toNat : Int))).setCell ⟨w.heap.size, 3, none⟩ (.int .i64 (x3.toNat : Int))).setCell ⟨w.heap.size, 4, none⟩ (.int .i64 (x4.toNat : Int))) w.heap.size 29 #[.int .i64 (x0.toNat : Int), .int .i64 (x1.toNat : Int), .int .i64 (x2.toNat : Int), .int .i64 (x3.toNat : Int), .int .i64 (x4.toNat : Int)] :=
    ((((B5.out.set_ 0 _).set_ 1 _).set_ 2 _).set_ 3 _).set_ 4 _
  have hO6 : Old w (((((w5.setCell ⟨w.heap.size, 0, none⟩ (.int .i64 (x0.toNat : Int))).setCell ⟨w.heap.size, 1, none⟩ (.int .i64 (x1.toNat : Int))).setCell ⟨w.heap.size, 2, none⟩ (.int .i64 (x2.toNat : Int))).setCell ⟨w.heap.size, 3, none⟩ (.int .i64 (x3.toNat : Int))).setCell ⟨w.heap.size, 4, none⟩ (.int .i64 (x4.toNat : Int))) :=
    ((((Below.setCell hb4 (Nat.le_refl _) _).setCell (Nat.le_refl _) _).setCell (Nat.le_refl _) _).setCell (Nat.le_refl _) _).setCell (Nat.le_refl _) _
  clear hc0 hc1 hc2 hc3 hc4 hf0 hf1 hf2 hf3 hf4
  generalize (((((w5.setCell ⟨w.heap.size, 0, none⟩ (.int .i64 (x0.toNat : Int))).setCell ⟨w.heap.size, 1, none⟩ (.int .i64 (x1.toNat : Int))).setCell ⟨w.heap.size, 2, none⟩ (.int .i64 (x2.toNat : Int))).setCell ⟨w.heap.size, 3, none⟩ (.int .i64 (x3.toNat : Int))).setCell ⟨w.heap.size, 4, none⟩ (.int .i64 (x4.toNat : Int))) = w6 at *
  refine hK.out _ _ hO6 (fun hHeld => ?_)
  clear hK K
  try simp only [Act.put, List.setIfInBounds_toArray, List.set_cons_zero, List.set_cons_succ]
  refine wpAnyH_done (by kernel_rfl) ?_ _
  refine NoPanic.normal ?_
  simp only [Exit.then]
  go_wp2_with fail
  have hc0 := hB6.cell 0
  have hc1 := hB6.cell 1
  have hc2 := hB6.cell 2
  have hc3 := hB6.cell 3
  have hc4 := hB6.cell 4
  simp only [List.getElem?_toArray, List.getElem?_cons_zero, List.getElem?_cons_succ] at hc0 hc1 hc2 hc3 hc4
  exact bodyPost_ret (v := .agg #[.int .i64 (x0.toNat : Int), .int .i64 (x1.toNat : Int), .int .i64 (x2.toNat : Int), .int .i64 (x3.toNat : Int), .int .i64 (x4.toNat : Int)]) (by simp [results, Tryd.results21, go_sem, hc0, hc1, hc2, hc3, hc4]) rfl ⟨rfl, hO6⟩
end Go.Proofs.YtpccmcpeijmekaaDoor
