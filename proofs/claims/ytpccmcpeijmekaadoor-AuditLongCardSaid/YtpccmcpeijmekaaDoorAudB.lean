/-
  Contract of audit.line: a line behind a hash.
  Contracts of audit.Append and of the reference's put, Head, line, Append.
-/
import Derived.Test.YtpccmcpeijmekaaDoorAud1
import Derived.Test.YtpccmcpeijmekaaDoorAudP
import Derived.Test.YtpccmcpeijmekaaDoorMade
namespace Go.Proofs.YtpccmcpeijmekaaDoor
open Go.RowKit

def entV (s t f r l : Int) : Value := .agg #[.int .i64 s, .int .i64 t, .int .i64 f, .int .i64 r, .int .i64 l]
def entC (s t f r l : Int) : Array Value := #[.int .i64 s, .int .i64 t, .int .i64 f, .int .i64 r, .int .i64 l]
/-- The bytes of a line while it is written: a row of its own; the entry lies in its box. -/
structure LnI (w wr : World) (A : Option Addr) (n c : Nat) (l : List UInt8) (cs : Array Value) : Prop where
  own : Own wr w.heap.size (.slice A n c) l
  blk : Blk wr w.heap.size 29 cs
  old : Below w.heap.size w wr
theorem LnI.first (w : World) (cs : Array Value) : LnI w (w.alloc (.cells cs 29)) none 0 0 [] cs := ⟨Own.nil _ _, Blk.new _ _ _, (Below.refl _ _).alloc (Nat.le_refl _) _⟩
theorem LnI.step {w wr w' : World} {A : Option Addr} {n c : Nat} {l l' : List UInt8} {cs : Array Value} {v' : Value} (h : LnI w wr A n c l cs) (ho : Own w' w.heap.size v' l') (ht : Turn (Value.slice A n c).ownBlock.toList wr w') :
    ∃ A' n' c', v' = .slice A' n' c' ∧ LnI w w' A' n' c' l' cs := by
  obtain ⟨A', c', rfl, _⟩ := ho.shape
  exact ⟨_, _, _, rfl, ho, h.blk.turn ht (fun hm => h.own.ne h.blk (by decide) (by simpa using hm)), below_turn h.old ht (fun t hm => (h.own.lt (show _ = some t by simpa using hm)).1) h.old.size⟩
theorem LnI.cells {w wr : World} {A : Option Addr} {n c : Nat} {l : List UInt8} {s t f r k : Int} (h : LnI w wr A n c l (entC s t f r k)) : wr.cell? ⟨w.heap.size, 1, none⟩ = some (.int .i64 t) ∧ wr.cell? ⟨w.heap.size, 2, none⟩ = some (.int .i64 f) ∧ wr.cell? ⟨w.heap.size, 3, none⟩ = some (.int .i64 r) ∧ wr.cell? ⟨w.heap.size, 4, none⟩ = some (.int .i64 k) :=
  ⟨h.blk.cell 1, h.blk.cell 2, h.blk.cell 3, h.blk.cell 4⟩
theorem app32_n (v : Value) (n : Nat) (hn : n < 4294967296) (l : List UInt8) (w : World) (base : Nat) (h : Own w base v l) (hb : base ≤ w.heap.size) (hl : l.length ≤ 1000) :
    Calls Tryd.prog 22 #[v, .int .u32 (n : Int)] w fun e w' => ∃ v', e = .returned v' ∧ Own w' base v' (l ++ beTail n 4) ∧ Turn v.ownBlock.toList w w' := by
  rw [int_U32 n hn, beTail_4 n hn]
  exact (append32_any v _ l w base h hb (by omega)).mono fun e w' ⟨v', h1, h2, h3, _⟩ => ⟨v', h1, h2, h3⟩
theorem app64_n (v : Value) (n : Nat) (hn : n < 18446744073709551616) (l : List UInt8) (w : World) (base : Nat) (h : Own w base v l) (hb : base ≤ w.heap.size) (hl : l.length ≤ 1000) :
    Calls Tryd.prog 23 #[v, .int .u64 (n : Int)] w fun e w' => ∃ v', e = .returned v' ∧ Own w' base v' (l ++ beTail n 8) ∧ Turn v.ownBlock.toList w w' := by
  rw [int_U64 n hn, beTail_8 n hn]
  exact (append64_any v _ l w base h hb (by omega)).mono fun e w' ⟨v', h1, h2, h3, _⟩ => ⟨v', h1, h2, h3⟩
theorem app16_n (v : Value) (n : Nat) (hn : n < 65536) (l : List UInt8) (w : World) (base : Nat) (h : Own w base v l) (hb : base ≤ w.heap.size) (hl : l.length ≤ 1000) :
    Calls Tryd.prog 24 #[v, .int .u16 (n : Int)] w fun e w' => ∃ v', e = .returned v' ∧ Own w' base v' (l ++ beTail n 2) ∧ Turn v.ownBlock.toList w w' := by
  rw [int_U16 n hn, beTail_2 n hn]
  exact (append16_any v _ l w base h hb (by omega)).mono fun e w' ⟨v', h1, h2, h3, _⟩ => ⟨v', h1, h2, h3⟩
set_option maxHeartbeats 1000000 in
theorem line_any (A : Option Addr) (m c : Nat) (ahead : List UInt8) (seq : Nat) (s0 : Int) (e : Ent) (w : World) (hr : Rd w A m c ahead) (hm : m ≤ 1000) (hs : seq < 4294967296) (he : e.ok) (hK : KAt w) :
    Calls Tryd.prog 16 #[.slice A m c, .int .i64 (seq : Int), entV s0 e.time e.fn e.rv e.slot] w (RowRes w (aline (rof 3) ahead seq e)) := by
  unfold entV
  have HH := Lib.hid (And.intro hr (And.intro hK (And.intro hm (And.intro hs he))))
  have i1 : (seq : Int) ≤ 4294967295 := by omega
  have i2 : (e.time : Int) ≤ 9223372036854775807 := by have := he.time; omega
  have i3 : (e.fn : Int) ≤ 65535 := by have := he.fn; omega
  have i4 : (e.rv : Int) ≤ 4294967295 := by have := he.rv; omega
  have i5 : (e.slot : Int) ≤ 65535 := by have := he.slot; omega
  clear hr hK hm hs he
  have hI0 := LnI.first w (entC s0 e.time e.fn e.rv e.slot)
  have H0 := Lib.hid hI0
  clear hI0
  go_enter Tryd.func16, Tryd.ntmps16
  go_wp2_with fail
  refine (app32_n _ seq HH.out.2.2.2.1 [] _ w.heap.size H0.out.own H0.out.old.size (by simp)).mono ?_
  rintro e1 w1 ⟨v1, rfl, ho1, ht1⟩
  obtain ⟨A1, n1, c1, rfl, hI1⟩ := H0.out.step ho1 ht1
  clear ho1 ht1
  obtain ⟨k1, k2, k3, k4⟩ := hI1.cells
  have H1 := Lib.hid hI1
  clear hI1
  go_wp2_with fail
  refine (app64_n _ e.time (by have := HH.out.2.2.2.2.time; omega) _ _ w.heap.size H1.out.own H1.out.old.size (by simp [beTail_len])).mono ?_
  rintro e2 w2 ⟨v2, rfl, ho2, ht2⟩
  obtain ⟨A2, n2, c2, rfl, hI2⟩ := H1.out.step ho2 ht2
  clear ho2 ht2 k1 k2 k3 k4
  obtain ⟨k1, k2, k3, k4⟩ := hI2.cells
  have H2 := Lib.hid hI2
  clear hI2
  go_wp2_with fail
  refine (app16_n _ e.fn (by have := HH.out.2.2.2.2.fn; omega) _ _ w.heap.size H2.out.own H2.out.old.size (by simp [beTail_len])).mono ?_
  rintro e3 w3 ⟨v3, rfl, ho3, ht3⟩
  obtain ⟨A3, n3, c3, rfl, hI3⟩ := H2.out.step ho3 ht3
  clear ho3 ht3 k1 k2 k3 k4
  obtain ⟨k1, k2, k3, k4⟩ := hI3.cells
  have H3 := Lib.hid hI3
  clear hI3
  go_wp2_with fail
  refine (app32_n _ e.rv (by have := HH.out.2.2.2.2.rv; omega) _ _ w.heap.size H3.out.own H3.out.old.size (by simp [beTail_len])).mono ?_
  rintro e4 w4 ⟨v4, rfl, ho4, ht4⟩
  obtain ⟨A4, n4, c4, rfl, hI4⟩ := H3.out.step ho4 ht4
  clear ho4 ht4 k1 k2 k3 k4
  obtain ⟨k1, k2, k3, k4⟩ := hI4.cells
  have H4 := Lib.hid hI4
  clear hI4
  go_wp2_with fail
  refine (app16_n _ e.slot (by have := HH.out.2.2.2.2.slot; omega) _ _ w.heap.size H4.out.own H4.out.old.size (by simp [beTail_len])).mono ?_
  rintro e5 w5 ⟨v5, rfl, ho5, ht5⟩
  obtain ⟨A5, n5, c5, rfl, hI5⟩ := H4.out.step ho5 ht5
  clear ho5 ht5 k1 k2 k3 k4
  have H5 := Lib.hid hI5
  clear hI5
  go_wp2_with fail
  have ho5 : Own w5 w.heap.size (.slice A5 n5 c5) (hb seq e) := H5.out.own
  have hblk := Blk.new w5 24 #[.slice A m c, .slice A5 n5 c5]
  have hpp := rd_two hblk ((HH.out.1.below H5.out.old).below ((Below.refl _ _).alloc (Nat.le_refl _) _)) (ho5.rd.below ((Below.refl _ _).alloc (Nat.le_refl _) _))
  refine (of_res_all 3 _ 2 2 _ _ hpp (by have := HH.out.1.1; have := HH.out.2.2.1; simp [hb_len]; omega) (HH.out.2.1.below (H5.out.old.alloc H5.out.old.size _))).mono ?_
  rintro e6 w6 ⟨A6, n6, c6, rfl, hO6, hb6⟩
  rw [show ([ahead, hb seq e] : List (List UInt8)).flatten = ahead ++ hb seq e by simp] at hO6
  have hl6 := rof_len 3 (by decide) (ahead ++ hb seq e) (by have := HH.out.1.1; have := HH.out.2.2.1; simp [hb_len]; omega)
  have h56 : Old w5 w6 := Old.trans ((Below.refl _ _).alloc (Nat.le_refl _) _) hb6
  have ho6 := ho5.below h56
  have HX := Lib.hid (And.intro ho6 (And.intro hO6 (And.intro hl6 h56)))
  clear ho5 hblk hpp hO6 hb6 hl6 h56 ho6
  go_wp2_with (at_builtin; go_must (refine wp_app2 (.tmp 31) (.tmp 35) w.heap.size (.slice A5 n5 c5) (hb seq e) HX.out.1 (Nat.le_trans H5.out.old.size HX.out.2.2.2.size) A6 n6 c6 _ HX.out.2.1.rd (by have := HX.out.2.2.1; rw [this, hb_len]; decide) rfl rfl rfl rfl ?_; intro A7 n7 c7 w7 hn7 hG7))
  go_ret
  exact RowRes.of hG7.own ((H5.out.old.trans (Below.mono HX.out.2.2.2 H5.out.old.size)).trans hG7.below)
end Go.Proofs.YtpccmcpeijmekaaDoor
namespace Go.Proofs.YtpccmcpeijmekaaDoor
open Go.RowKit

theorem clone_res (A : Option Addr) (m c : Nat) (l : List UInt8) (w : World) (h : Rd w A m c l) (hm : m ≤ 1000000000) : Calls Tryd.prog 15 #[.slice A m c] w (RowRes w l) := by
  obtain ⟨h1, h2, h3, ⟨rfl, hc⟩ | ⟨b, off, rfl, h4⟩⟩ := h
  · obtain rfl : m = 0 := by omega
    obtain rfl : l = [] := List.length_eq_zero_iff.1 h1.symm
    subst hc
    refine (clone_nil w).mono ?_
    rintro e w' ⟨rfl, rfl⟩
    exact ⟨_, _, _, rfl, Own.nil _ _, Below.refl _ _⟩
  · refine (clone_any b off m c l w h4 h1 (by omega)).mono ?_
    rintro e w' ⟨g, c', rfl, ho, hb⟩
    exact ⟨_, _, _, rfl, ho, hb⟩
/-- An append that was done; one that was refused. -/
def AppYes (w : World) (l : List UInt8) (e : Ending) (w' : World) : Prop := ∃ A n c, e = .returned (.tuple #[.slice A n c, .bool true]) ∧ Own w' w.heap.size (.slice A n c) l ∧ Below w.heap.size w w'
def AppNo (w : World) (e : Ending) (w' : World) : Prop := e = .returned (.tuple #[.slice none 0 0, .bool false]) ∧ Below w.heap.size w w'
/-- Numbers that make a line. -/
def okE (t f r l : Int) : Prop := 0 ≤ t ∧ 0 ≤ f ∧ f ≤ 65535 ∧ 0 ≤ l ∧ l ≤ 65535 ∧ 0 ≤ r ∧ r ≤ 4294967295
theorem okE_no {t f r l : Int} (h : ¬ okE t f r l) : t < 0 ∨ (0 ≤ t ∧ f < 0) ∨ (0 ≤ t ∧ 0 ≤ f ∧ 65535 < f) ∨ (0 ≤ t ∧ 0 ≤ f ∧ f ≤ 65535 ∧ l < 0) ∨ (0 ≤ t ∧ 0 ≤ f ∧ f ≤ 65535 ∧ 0 ≤ l ∧ 65535 < l) ∨
    (0 ≤ t ∧ 0 ≤ f ∧ f ≤ 65535 ∧ 0 ≤ l ∧ l ≤ 65535 ∧ r < 0) ∨ (0 ≤ t ∧ 0 ≤ f ∧ f ≤ 65535 ∧ 0 ≤ l ∧ l ≤ 65535 ∧ 0 ≤ r ∧ 4294967295 < r) := by
  unfold okE at h; omega
set_option maxHeartbeats 1000000 in
theorem append_no (v : Value) (A : Option Addr) (m c q : Nat) (s t f r l : Int) (w : World) (hm : m = q * 52) (hq : m ≤ 1000000000) (hno : ¬ okE t f r l) :
    Calls Tryd.prog 7 #[.slice A m c, entV s t f r l] w (AppNo w) := by
  unfold entV
  have hmod : (m : Int) % 52 = 0 := by omega
  clear hm
  rcases okE_no hno with h1 | ⟨h1, h2⟩ | ⟨h1, h2, h3⟩ | ⟨h1, h2, h3, h4⟩ | ⟨h1, h2, h3, h4, h5⟩ | ⟨h1, h2, h3, h4, h5, h6⟩ | ⟨h1, h2, h3, h4, h5, h6, h7⟩
  all_goals
    clear hno
    go_enter Tryd.func7, Tryd.ntmps7
    go_wp2
    go_ret2
    exact ⟨rfl, (Below.refl _ _).alloc (Nat.le_refl _) _⟩
theorem seq_q (A : Option Addr) (m c q : Nat) (w : World) (hm : m = q * 52) (hq : m ≤ 1000000000) : Calls Tryd.prog 10 #[.slice A m c] w fun e w' => e = .returned (.int .i64 (q : Int)) ∧ w = w' := by
  have h := seq_any A m c w hq
  rwa [show m / 52 = q by omega] at h
theorem entC_cells (w wq : World) (s t f r l : Int) (h : Old (w.alloc (.cells (entC s t f r l) 29)) wq) :
    wq.cell? ⟨w.heap.size, 0, none⟩ = some (.int .i64 s) ∧ wq.cell? ⟨w.heap.size, 1, none⟩ = some (.int .i64 t) ∧ wq.cell? ⟨w.heap.size, 2, none⟩ = some (.int .i64 f) ∧ wq.cell? ⟨w.heap.size, 3, none⟩ = some (.int .i64 r) ∧ wq.cell? ⟨w.heap.size, 4, none⟩ = some (.int .i64 l) := by
  have hb : Blk wq w.heap.size 29 (entC s t f r l) := (Blk.new w _ _).below h
  exact ⟨hb.cell 0, hb.cell 1, hb.cell 2, hb.cell 3, hb.cell 4⟩
set_option maxHeartbeats 1000000 in
theorem append_yes (A : Option Addr) (m c q : Nat) (log : List UInt8) (s : Int) (e : Ent) (w : World) (hr : Rd w A m c log) (hm : m = q * 52) (hq : m ≤ 1000000000) (he : e.ok) (hK : KAt w) :
    Calls Tryd.prog 7 #[.slice A m c, entV s e.time e.fn e.rv e.slot] w (AppYes w (addLine (rof 3) log e)) := by
  unfold entV
  have hmod : (m : Int) % 52 = 0 := by omega
  have hqm : m / 52 = q := by omega
  have HH := Lib.hid (And.intro hr (And.intro hK (And.intro he (And.intro hm (And.intro hq hqm)))))
  have i2 : ¬ ((e.time : Int) < 0) := by omega
  have i3 : (e.fn : Int) ≤ 65535 := by have := he.fn; omega
  have i4 : (e.rv : Int) ≤ 4294967295 := by have := he.rv; omega
  have i5 : (e.slot : Int) ≤ 65535 := by have := he.slot; omega
  have i6 : ¬ ((e.fn : Int) < 0) := by omega
  have i7 : ¬ ((e.rv : Int) < 0) := by omega
  have i8 : ¬ ((e.slot : Int) < 0) := by omega
  have i9 : ¬ ((65535 : Int) < e.fn) := by omega
  have i10 : ¬ ((65535 : Int) < e.slot) := by omega
  have i11 : ¬ ((4294967295 : Int) < e.rv) := by omega
  clear hr hK hm he hqm
  have hW : Old w (w.alloc (.cells (entC s e.time e.fn e.rv e.slot) 29)) := (Below.refl _ _).alloc (Nat.le_refl _) _
  have HW := Lib.hid hW
  clear hW
  go_enter Tryd.func7, Tryd.ntmps7
  go_wp2_with fail
  refine region_old (by kernel_rfl) (fun wd hHeld hSz => ?_)
  have HSz := Lib.hid hSz
  clear hSz
  refine takeL (i := 0) (v := ?_) rfl (by kernel_rfl) (by kernel_rfl) (by kernel_rfl) (fun _ _ _ h => h) (Or.inl ⟨by rfl, ?_⟩) hHeld ?_
  rotate_left
  focus (intro wq hSw; clear hSw; go_simp; try with_reducible rfl)
  try simp only [Act.put, List.setIfInBounds_toArray, List.set_cons_zero, List.set_cons_succ]
  refine takeL (i := 2) (v := ?_) rfl (by kernel_rfl) (by kernel_rfl) (by kernel_rfl) (fun _ _ _ h => h) (Or.inl ⟨by rfl, ?_⟩) hHeld ?_
  rotate_left
  focus (intro wq hSw; clear hSw; go_simp; try with_reducible rfl)
  try simp only [Act.put, List.setIfInBounds_toArray, List.set_cons_zero, List.set_cons_succ]
  refine takeL (i := 4) (v := ?_) rfl (by kernel_rfl) (by kernel_rfl) (by kernel_rfl) (fun _ _ _ h => h) (Or.inl ⟨by rfl, ?_⟩) hHeld ?_
  rotate_left
  focus (intro wq hSw; clear hSw; go_simp; try with_reducible rfl)
  try simp only [Act.put, List.setIfInBounds_toArray, List.set_cons_zero, List.set_cons_succ]
  refine takeL (i := 6) (v := ?_) rfl (by kernel_rfl) (by kernel_rfl) (by kernel_rfl) (fun _ _ _ h => h) (Or.inl ⟨by rfl, ?_⟩) hHeld ?_
  rotate_left
  focus (intro wq hSw; obtain ⟨k0, k1, k2, k3, k4⟩ := entC_cells w wq s e.time e.fn e.rv e.slot hSw; clear hSw; go_simp; try with_reducible rfl)
  try simp only [Act.put, List.setIfInBounds_toArray, List.set_cons_zero, List.set_cons_succ]
  refine wpAnyH_ready (rs := [1]) (by kernel_rfl) (by simp) ?_
  refine consL rfl (fun K hK => ?_) AllReadyH.nil
  go_simp
  refine (clone_res A m c log _ (HH.out.1.below (HW.out.trans hHeld)) HH.out.2.2.2.2.1).mono ?_
  rintro e1 w1 ⟨A1, n1, c1, rfl, hO1, hb1⟩
  have h1 := hHeld.trans hb1
  have hO1' := hO1.mono hHeld.size
  have X1 := Lib.hid (And.intro hO1' h1)
  clear hO1 hb1 h1 hO1'
  refine hK.out _ _ X1.out.2 (fun hHeld => ?_)
  clear hK K
  try simp only [Act.put, List.setIfInBounds_toArray, List.set_cons_zero, List.set_cons_succ]
  refine wpAnyH_ready (rs := [3]) (by kernel_rfl) (by simp) ?_
  refine consL rfl (fun K hK => ?_) AllReadyH.nil
  go_simp
  refine (head_any A m c log _ (HH.out.1.below (HW.out.trans hHeld)) HH.out.2.2.2.2.1).mono ?_
  rintro e2 w2 ⟨A2, n2, c2, rfl, hO2, hb2⟩
  have h2 := hHeld.trans hb2
  have X2 := Lib.hid (And.intro (X1.out.1.below hb2) (And.intro hO2 h2))
  clear hO2 hb2 h2
  refine hK.out _ _ X2.out.2.2 (fun hHeld => ?_)
  clear hK K
  try simp only [Act.put, List.setIfInBounds_toArray, List.set_cons_zero, List.set_cons_succ]
  refine wpAnyH_ready (rs := [5]) (by kernel_rfl) (by simp) ?_
  refine consL rfl (fun K hK => ?_) AllReadyH.nil
  go_simp
  refine (seq_q A m c q _ HH.out.2.2.2.1 HH.out.2.2.2.2.1).mono ?_
  rintro e3 w3 ⟨rfl, rfl⟩
  refine hK.out _ _ (by repeat (first | exact hHeld | exact Old.refl _ | assumption | refine Old.drew ?_ | refine Old.drewN ?_ _ | refine Old.alloc ?_ _)) (fun hHeld => ?_)
  clear hK K
  try simp only [Act.put, List.setIfInBounds_toArray, List.set_cons_zero, List.set_cons_succ]
  refine wpAnyH_ready (rs := [7]) (by kernel_rfl) (by simp) ?_
  refine consL rfl (fun K hK => ?_) AllReadyH.nil
  go_simp
  refine (line_any A2 n2 c2 (lastHash log) q s e _ X2.out.2.1.rd (by have := X2.out.2.1.len; rw [lastHash_len] at this; omega) (by have := HH.out.2.2.2.1; have := HH.out.2.2.2.2.1; omega) HH.out.2.2.1 (HH.out.2.1.below (HW.out.trans hHeld))).mono ?_
  rintro e4 w4 ⟨A4, n4, c4, rfl, hO4, hb4⟩
  have h4 := hHeld.trans hb4
  have hl4 := aline_len (H := rof 3) (fun l hl => rof_len 3 (by decide) l (by omega)) (lastHash log) q e (by rw [lastHash_len]; omega)
  have X4 := Lib.hid (And.intro (X2.out.1.below hb4) (And.intro hO4 (And.intro h4 hl4)))
  clear hO4 hb4 h4 hl4
  refine hK.out _ _ X4.out.2.2.1 (fun hHeld => ?_)
  clear hK K
  try simp only [Act.put, List.setIfInBounds_toArray, List.set_cons_zero, List.set_cons_succ]
  refine wpAnyH_ready (rs := [8]) (by kernel_rfl) (by simp) ?_
  refine consL rfl (fun K hK => ?_) AllReadyH.nil
  refine step_app2 (.tmp 46) (.tmp 52) (w.alloc (.cells (entC s e.time e.fn e.rv e.slot) 29)).heap.size (.slice A1 n1 c1) log X4.out.1 X4.out.2.2.1.size A4 n4 c4 _ X4.out.2.1.rd (by rw [X4.out.2.2.2]; have := HH.out.1.1; have := HH.out.2.2.2.2.1; omega) rfl rfl rfl rfl ?_
  intro A5 n5 c5 w5 hn5 hG5
  have hx5 : Old (w.alloc (.cells (entC s e.time e.fn e.rv e.slot) 29)) w5 := below_turn X4.out.2.2.1 (Turn.of_grown hG5.grown) (fun x hx => (X4.out.1.lt (show _ = some x by simpa using hx)).1) X4.out.2.2.1.size
  refine hK.out _ _ hx5 (fun hHeld => ?_)
  clear hK K
  try simp only [Act.put, List.setIfInBounds_toArray, List.set_cons_zero, List.set_cons_succ]
  refine takeL (i := 9) (v := ?_) rfl (by kernel_rfl) (by kernel_rfl) (by kernel_rfl) (fun _ _ _ h => h) (Or.inl ⟨by rfl, ?_⟩) hHeld ?_
  rotate_left
  focus (intro wq hSw; clear hSw; go_simp; try with_reducible rfl)
  try simp only [Act.put, List.setIfInBounds_toArray, List.set_cons_zero, List.set_cons_succ]
  refine takeL (i := 10) (v := ?_) rfl (by kernel_rfl) (by kernel_rfl) (by kernel_rfl) (fun _ _ _ h => h) (Or.inl ⟨by rfl, ?_⟩) hHeld ?_
  rotate_left
  focus (intro wq hSw; clear hSw; go_simp; try with_reducible rfl)
  try simp only [Act.put, List.setIfInBounds_toArray, List.set_cons_zero, List.set_cons_succ]
  refine wpAnyH_done (by kernel_rfl) ?_ _
  refine NoPanic.normal ?_
  simp only [Exit.then]
  go_wp2_with fail
  go_ret2
  have ho := hG5.own
  have e9 : log ++ aline (rof 3) (lastHash log) q e = addLine (rof 3) log e := by unfold addLine; rw [← HH.out.1.1, HH.out.2.2.2.2.2]
  rw [e9] at ho
  exact ⟨_, _, _, rfl, ho.mono HW.out.size, Old.trans HW.out hx5⟩
end Go.Proofs.YtpccmcpeijmekaaDoor
