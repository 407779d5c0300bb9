/-
  blockfs: side, refused, wrote, Blocks, Commits, Read.
  blockfs: Read, Format.
-/
import Derived.Test.YtomngfihaohgdaaDoorFs1
import Derived.Test.YtomngfihaohgdaaDoorReg
namespace Go.Proofs.YtomngfihaohgdaaDoor
set_option maxRecDepth 100000
open Go.RowKit

theorem equalB_any (A : Option Addr) (m c : Nat) (A' : Option Addr) (m' c' : Nat) (l l' : List UInt8) (w : World) (hr : Rd w A m c l) (hr' : Rd w A' m' c' l') :
    Calls Tryd.prog 41 #[.slice A m c, .slice A' m' c'] w fun e w' => (e = .returned (.bool (decide (l = l')))) ∧ w = w' := by
  have s1 := hr.str
  have s2 := hr'.str
  clear hr hr'
  by_cases he : l = l'
  · rw [decide_eq_true he]
    subst he
    go_enter Tryd.func41, Tryd.ntmps41
    go_wp2
    go_ret
    exact ⟨by first | rfl | simp, rfl⟩
  · rw [decide_eq_false he]
    have hn : (⟨l.toArray⟩ : ByteArray) ≠ ⟨l'.toArray⟩ := fun e => he (by simpa using congrArg (fun b => b.data.toList) e)
    go_enter Tryd.func41, Tryd.ntmps41
    go_wp2
    go_ret
    exact ⟨by first | rfl | simp [he], rfl⟩
theorem cell_old {w w' : World} {b o : Nat} {v : Value} (ht : Old w w') (h : w.cell? ⟨b, o, none⟩ = some v) : w'.cell? ⟨b, o, none⟩ = some v := cell_turn h (Turn.of_below [] ht) (by simp)
/-- A device in memory. -/
def DkAt (w : World) (d L : Nat) (s : Dsk) : Prop := ∃ xs, DiskAt w d L xs s
theorem DkAt.below {w w' : World} {d L : Nat} {s : Dsk} (h : DkAt w d L s) (hb : Below w.heap.size w w') : DkAt w' d L s := by
  obtain ⟨xs, h⟩ := h; exact ⟨xs, h.below hb⟩
theorem DkAt.n {w : World} {d L : Nat} {s : Dsk} (h : DkAt w d L s) : 0 < s.n ∧ s.n ≤ 65536 := by obtain ⟨xs, h⟩ := h; exact ⟨h.2.2.2.1, h.2.2.2.2⟩
theorem DkAt.lt {w : World} {d L : Nat} {s : Dsk} (h : DkAt w d L s) : d < w.heap.size ∧ L < w.heap.size := by obtain ⟨xs, h⟩ := h; exact ⟨h.1.lt, h.2.1.lt⟩
theorem DkAt.typed {w : World} {d L : Nat} {s : Dsk} (h : DkAt w d L s) : (∃ cs, Blk w d 67 cs) ∧ ∃ cs, Blk w L 69 cs := by
  obtain ⟨xs, h⟩ := h; exact ⟨⟨_, h.1⟩, ⟨_, h.2.1⟩⟩
theorem rd_lt {s : Dsk} {i : Nat} (hi : i < s.n) : s.rd i = s.secs[i].read := by
  unfold Dsk.rd
  rw [List.getElem?_eq_getElem hi]; rfl
/-- What is owned, or is of another type, is beside a device. -/
theorem Own.beside {w : World} {base : Nat} {v : Value} {l : List UInt8} (h : Own w base v l) {d L : Nat} {s : Dsk} (hd : DkAt w d L s) : ∀ g, v.ownBlock = some g → g ∉ [d, L] := by
  intro g hg hm
  obtain ⟨⟨cs, h1⟩, cs2, h2⟩ := hd.typed
  simp at hm
  rcases hm with rfl | rfl
  · exact h.ne h1 (by decide) hg
  · exact h.ne h2 (by decide) hg
theorem KAt.beside {w w' : World} (h : KAt w) {d L : Nat} {s : Dsk} (hd : DkAt w d L s) (ht : Turn [d, L] w w') : KAt w' := by
  obtain ⟨xs, h1, h2, h3, h4, _⟩ := hd
  have hk := h.2 0 _ (show kTab[0]? = some (kTab.getD 0 0) from rfl)
  have key : ∀ g : Nat, g = 0 → w.cell? ⟨g, 0, none⟩ = some (U64 (kTab.getD 0 0)) := fun g hg => by rw [hg]; exact hk
  refine h.turn ht (fun hm => ?_)
  rw [List.mem_cons, List.mem_singleton] at hm
  rcases hm with e | e
  · have hk := key d e.symm
    rw [h1.cell] at hk
    cases hk
  · obtain ⟨x, hx⟩ : ∃ x, xs[0]? = some x := ⟨_, List.getElem?_eq_getElem (by rw [h3.1]; exact h4)⟩
    obtain ⟨A1, n1, c1, e1⟩ := (h3.2 0 x _ hx (List.getElem?_eq_getElem h4)).1.slice
    have h0 := (encS_get xs 0 x hx).1
    rw [Nat.zero_mul] at h0
    have hk := key L e.symm
    rw [h2.cell, List.getElem?_toArray, h0, e1] at hk
    cases hk
theorem dkread_any (d L : Nat) (s : Dsk) (w : World) (h : DkAt w d L s) (i : Nat) (hi : i < s.n) :
    Calls Tryd.prog 36 #[.pointer (some ⟨d, 0, none⟩), .int .i64 (i : Int)] w fun e w' =>
      ∃ g c', e = .returned (.slice (some ⟨g, 0, none⟩) 256 c') ∧ Own w' w.heap.size (.slice (some ⟨g, 0, none⟩) 256 c') (s.rd i) ∧ (s.rd i).length = 256 ∧ Below w.heap.size w w' := by
  obtain ⟨xs, h⟩ := h
  rw [rd_lt hi]
  exact read_in d L xs s w h i hi
theorem dkwrite_any (d L : Nat) (s : Dsk) (w : World) (k : Nat) (h : DkAt w d L s) (hf : FOk s k) (hk : k < 1000000) (i : Nat) (hi : i < s.n) (b off c : Nat) (l : List UInt8) (hb : At w b off l) (hl : l.length = 256) :
    Calls Tryd.prog 42 #[.pointer (some ⟨d, 0, none⟩), .int .i64 (i : Int), .slice (some ⟨b, off, none⟩) 256 c] w fun e w' =>
      e = .returned (.bool (s.wr i l).1) ∧ DkAt w' d L (s.wr i l).2 ∧ Turn [d, L] w w' := by
  obtain ⟨xs, h⟩ := h
  unfold Dsk.wr
  cases hd : s.dead with
  | true =>
    refine (write_no d L xs s i (some ⟨b, off, none⟩) 256 c w h (.inl hd)).mono ?_
    rintro e w' ⟨rfl, rfl⟩
    exact ⟨rfl, ⟨xs, h⟩, Turn.refl _ _⟩
  | false =>
    refine (write_in d L xs s w h hd i hi b off c l hb hl (Nat.lt_of_le_of_lt hf.count hk) (fun hfu => ⟨hf.left hfu hd, by have := hf.most; omega⟩)).mono ?_
    rintro e w' ⟨rfl, h1, h2⟩
    exact ⟨rfl, h1, h2⟩
theorem dksync_any (d L : Nat) (s : Dsk) (w : World) (k : Nat) (h : DkAt w d L s) (hf : FOk s k) (hk : k < 1000000) :
    Calls Tryd.prog 31 #[.pointer (some ⟨d, 0, none⟩)] w fun e w' => e = .returned (.bool s.sy.1) ∧ DkAt w' d L s.sy.2 ∧ Turn [d, L] w w' := by
  obtain ⟨xs, h⟩ := h
  unfold Dsk.sy
  by_cases hd' : s.dead = true
  · rw [if_pos hd']
    refine (sync_dead d L xs s w h hd').mono ?_
    rintro e w' ⟨rfl, rfl⟩
    exact ⟨rfl, ⟨xs, h⟩, Turn.refl _ _⟩
  · rw [if_neg hd']
    have hd : s.dead = false := by cases h0 : s.dead with | false => rfl | true => exact absurd h0 hd'
    refine (sync_any d L xs s w h hd (Nat.lt_of_le_of_lt hf.count hk) (fun hfu => ⟨hf.left hfu hd, by have := hf.most; omega⟩)).mono ?_
    rintro e w' ⟨rfl, h1, h2⟩
    exact ⟨rfl, h1, h2⟩
theorem side_any (B c i : Nat) (hB : B ≤ 1000000) (hc : c ≤ 1000000) (hi : i ≤ 1000000) (w : World) :
    Calls Tryd.prog 32 #[.int .i64 (B : Int), .int .i64 (c : Int), .int .i64 (i : Int)] w fun e w' => e = .returned (.int .i64 ((8 + c % 2 * B + i : Nat) : Int)) ∧ w = w' := by
  obtain ⟨r, hr⟩ : ∃ r, c % 2 = r := ⟨_, rfl⟩
  have hr1 : (c : Int).tmod 2 = (r : Int) := by rw [Int.tmod_eq_emod_of_nonneg (by omega)]; omega
  rw [hr]
  rcases (show r = 0 ∨ r = 1 by omega) with rfl | rfl
  · clear hr
    go_enter Tryd.func32, Tryd.ntmps32
    go_wp2
    go_ret
    exact ⟨by congr 2; simp, rfl⟩
  · clear hr
    go_enter Tryd.func32, Tryd.ntmps32
    go_wp2
    go_ret
    exact ⟨by congr 2; simp, rfl⟩
theorem refused_nil (w : World) : Calls Tryd.prog 27 #[.pointer none] w fun e w' => e = .returned (.int .i64 7) ∧ w = w' := by
  have h1 := sectors_nil w
  go_enter Tryd.func27, Tryd.ntmps27
  go_wp2_with fail
  refine h1.mono ?_
  rintro e w' ⟨rfl, rfl⟩
  go_wp2_with fail
  go_ret
  exact ⟨rfl, rfl⟩
theorem refused_any (d L : Nat) (s : Dsk) (w : World) (h : DkAt w d L s) :
    Calls Tryd.prog 27 #[.pointer (some ⟨d, 0, none⟩)] w fun e w' => e = .returned (.int .i64 (if s.n < 16 then 7 else if s.dead then 48 else 0)) ∧ w = w' := by
  obtain ⟨xs, h⟩ := h
  have h1 := sectors_any d L xs s w h
  have h2 := dead_any d L xs s w h
  have hn := h.2.2.2.2
  rw [show s.secs.length = s.n from rfl] at h1 hn
  obtain ⟨N, hN⟩ : ∃ N, s.n = N := ⟨_, rfl⟩
  obtain ⟨dd, hdd⟩ : ∃ dd, s.dead = dd := ⟨_, rfl⟩
  rw [hN] at h1 hn
  rw [hN, hdd]
  rw [hdd] at h2
  clear h hN hdd
  by_cases h16 : N < 16
  · have t1 : (N : Int) < 16 := by omega
    have t1d : decide ((N : Int) < 16) = true := decide_eq_true t1
    rw [if_pos h16]
    go_enter Tryd.func27, Tryd.ntmps27
    go_wp2_with fail
    refine h1.mono ?_
    rintro e w' ⟨rfl, rfl⟩
    go_wp2_with fail
    go_ret
    exact ⟨rfl, rfl⟩
  · have t1 : ¬ (N : Int) < 16 := by omega
    have t1d : decide ((N : Int) < 16) = false := decide_eq_false t1
    rw [if_neg h16]
    go_enter Tryd.func27, Tryd.ntmps27
    go_wp2_with fail
    refine h1.mono ?_
    rintro e w' ⟨rfl, rfl⟩
    go_wp2_with fail
    refine h2.mono ?_
    rintro e w' ⟨rfl, rfl⟩
    cases dd with
    | true =>
      go_wp2_with fail
      go_ret
      exact ⟨rfl, rfl⟩
    | false =>
      go_wp2_with fail
      go_ret
      exact ⟨rfl, rfl⟩
theorem wrote_any (d L : Nat) (s : Dsk) (w : World) (k : Nat) (h : DkAt w d L s) (hf : FOk s k) (hk : k < 1000000) (i : Nat) (hi : i < s.n) (b off c : Nat) (l : List UInt8) (hb : At w b off l) (hl : l.length = 256) (hc : 256 ≤ c ∧ c ≤ maxLen) :
    Calls Tryd.prog 30 #[.pointer (some ⟨d, 0, none⟩), .int .i64 (i : Int), .slice (some ⟨b, off, none⟩) 256 c] w fun e w' =>
      e = .returned (.bool (s.wrote i l).1) ∧ DkAt w' d L (s.wrote i l).2 ∧ Turn [d, L] w w' := by
  have hR := dkread_any d L s w h i hi
  have HH := Lib.hid (And.intro h hb)
  clear h hb
  obtain ⟨rs, hrs⟩ : ∃ rs, s.rd i = rs := ⟨_, rfl⟩
  rw [hrs] at hR
  obtain ⟨q, hq⟩ : ∃ q, s.wrote i l = q := ⟨_, rfl⟩
  rw [hq]
  unfold Dsk.wrote at hq
  rw [hrs] at hq
  have HQ := Lib.hid (And.intro hq hi)
  clear hq hrs hi
  go_enter Tryd.func30, Tryd.ntmps30
  go_wp2_with fail
  refine hR.mono ?_
  rintro e w1 ⟨g1, c1, rfl, hO1, hl1, hb1⟩
  have hE := equalB_any (some ⟨g1, 0, none⟩) 256 c1 (some ⟨b, off, none⟩) 256 c rs l w1 hO1.rd ⟨hl.symm, hc.1, hc.2, .inr ⟨b, off, rfl, HH.out.2.keep hb1.size (hb1.block b HH.out.2.1)⟩⟩
  have H1 := Lib.hid (And.intro (HH.out.1.below hb1) (And.intro (HH.out.2.keep hb1.size (hb1.block b HH.out.2.1)) hb1))
  clear hR hO1 hl1 hb1
  go_wp2_with fail
  refine hE.mono ?_
  rintro e w' ⟨rfl, rfl⟩
  clear hE
  have hq := HQ.out.1
  have hi := HQ.out.2
  by_cases he : rs = l
  · rw [if_pos he] at hq
    subst hq
    rw [decide_eq_true he]
    clear he hi
    go_wp2_with fail
    go_ret
    exact ⟨rfl, H1.out.1, Turn.of_below _ H1.out.2.2⟩
  · rw [if_neg he] at hq
    rw [decide_eq_false he]
    have hW := dkwrite_any d L s w1 k H1.out.1 hf hk i hi b off c l H1.out.2.1 hl
    rw [hq] at hW
    obtain ⟨r1, r2⟩ := q
    clear he hq hi
    go_wp2_with fail
    refine hW.mono ?_
    rintro e w2 ⟨rfl, hD, hT⟩
    have H2 := Lib.hid (And.intro hD ((Turn.of_below [d, L] H1.out.2.2).trans hT (fun x hx => .inl hx)))
    clear hD hT hW
    go_wp2_with fail
    go_ret
    exact ⟨rfl, H2.out.1, H2.out.2⟩
/-- A volume's own cells. -/
def VolB (w : World) (v d B c : Nat) (br : Bool) : Prop := Blk w v 61 #[.pointer (some ⟨d, 0, none⟩), .int .i64 (B : Int), .int .i64 (c : Int), .bool br]
theorem blocks_nil (w : World) : Calls Tryd.prog 18 #[.pointer none] w fun e w' => e = .returned (.int .i64 0) ∧ w = w' := by
  go_enter Tryd.func18, Tryd.ntmps18
  go_wp2
  go_ret
  exact ⟨rfl, rfl⟩
theorem commits_nil (w : World) : Calls Tryd.prog 13 #[.pointer none] w fun e w' => e = .returned (.int .i64 0) ∧ w = w' := by
  go_enter Tryd.func13, Tryd.ntmps13
  go_wp2
  go_ret
  exact ⟨rfl, rfl⟩
theorem VolB.cells {w : World} {v d B c : Nat} {br : Bool} (h : VolB w v d B c br) : w.cell? ⟨v, 0, none⟩ = some (.pointer (some ⟨d, 0, none⟩)) ∧ w.cell? ⟨v, 1, none⟩ = some (.int .i64 (B : Int)) ∧ w.cell? ⟨v, 2, none⟩ = some (.int .i64 (c : Int)) ∧ w.cell? ⟨v, 3, none⟩ = some (.bool br) := by
  unfold VolB at h
  rw [h.cell, h.cell, h.cell, h.cell]; exact ⟨rfl, rfl, rfl, rfl⟩
theorem blocks_any (v d B c : Nat) (br : Bool) (w : World) (h : VolB w v d B c br) : Calls Tryd.prog 18 #[.pointer (some ⟨v, 0, none⟩)] w fun e w' => e = .returned (.int .i64 (B : Int)) ∧ w = w' := by
  obtain ⟨c0, c1, c2, c3⟩ := h.cells
  clear h
  go_enter Tryd.func18, Tryd.ntmps18
  go_wp2
  go_ret
  exact ⟨rfl, rfl⟩
theorem commits_any (v d B c : Nat) (br : Bool) (w : World) (h : VolB w v d B c br) : Calls Tryd.prog 13 #[.pointer (some ⟨v, 0, none⟩)] w fun e w' => e = .returned (.int .i64 (c : Int)) ∧ w = w' := by
  obtain ⟨c0, c1, c2, c3⟩ := h.cells
  clear h
  go_enter Tryd.func13, Tryd.ntmps13
  go_wp2
  go_ret
  exact ⟨rfl, rfl⟩
end Go.Proofs.YtomngfihaohgdaaDoor
namespace Go.Proofs.YtomngfihaohgdaaDoor
set_option maxRecDepth 100000
open Go.RowKit

theorem volread_out (v d B c : Nat) (br : Bool) (w : World) (h : VolB w v d B c br) (i : Int) (hi : i < 0 ∨ (B : Int) ≤ i) :
    Calls Tryd.prog 19 #[.pointer (some ⟨v, 0, none⟩), .int .i64 i] w fun e w' => e = .returned (.slice none 0 0) ∧ w = w' := by
  have hb := blocks_any v d B c br w h
  clear h
  by_cases h0 : i < 0
  · have t1 : decide (i < 0) = true := decide_eq_true h0
    go_enter Tryd.func19, Tryd.ntmps19
    go_wp2_with fail
    go_ret
    exact ⟨rfl, rfl⟩
  · have t1 : decide (i < 0) = false := decide_eq_false h0
    have hi2 : (B : Int) ≤ i := hi.resolve_left h0
    have t2 : decide ((B : Int) ≤ i) = true := decide_eq_true hi2
    go_enter Tryd.func19, Tryd.ntmps19
    go_wp2_with fail
    refine hb.mono ?_
    rintro e w' ⟨rfl, rfl⟩
    go_wp2_with fail
    go_ret
    exact ⟨rfl, rfl⟩
theorem volread_nil (w : World) (i : Int) (hi : 0 ≤ i) :
    Calls Tryd.prog 19 #[.pointer none, .int .i64 i] w fun e w' => e = .returned (.slice none 0 0) ∧ w = w' := by
  have hb := blocks_nil w
  have h0 : ¬ i < 0 := by omega
  have t1 : decide (i < 0) = false := decide_eq_false h0
  have t2 : decide (0 ≤ i) = true := decide_eq_true hi
  go_enter Tryd.func19, Tryd.ntmps19
  go_wp2_with fail
  refine hb.mono ?_
  rintro e w' ⟨rfl, rfl⟩
  go_wp2_with fail
  go_ret
  exact ⟨rfl, rfl⟩
theorem volread_any (v d L B c : Nat) (br : Bool) (s : Dsk) (w : World) (h : VolB w v d B c br) (hD : DkAt w d L s) (hB : B ≤ 1000) (hc : c ≤ 100000) (hn : 8 + c % 2 * B + B ≤ s.n) (i : Nat) (hi : i < B) :
    Calls Tryd.prog 19 #[.pointer (some ⟨v, 0, none⟩), .int .i64 (i : Int)] w fun e w' =>
      ∃ g c', e = .returned (.slice (some ⟨g, 0, none⟩) 256 c') ∧ Own w' w.heap.size (.slice (some ⟨g, 0, none⟩) 256 c') (s.rd (8 + c % 2 * B + i)) ∧ (s.rd (8 + c % 2 * B + i)).length = 256 ∧ Below w.heap.size w w' := by
  have hb := blocks_any v d B c br w h
  have hcs := h.cells
  obtain ⟨q, hq⟩ : ∃ q, 8 + c % 2 * B + i = q := ⟨_, rfl⟩
  have hqn : q < s.n := by omega
  have hsd : ∀ w, Calls Tryd.prog 32 #[.int .i64 (B : Int), .int .i64 (c : Int), .int .i64 (i : Int)] w fun e w' => e = .returned (.int .i64 (q : Int)) ∧ w = w' := fun w => by
    rw [← hq]; exact side_any B c i (by omega) (by omega) (by omega) w
  rw [hq]
  have HS := Lib.hid (And.intro hsd (And.intro hcs (And.intro hD hqn)))
  have h0 : ¬ (i : Int) < 0 := by omega
  have t1 : decide ((i : Int) < 0) = false := decide_eq_false h0
  have h2 : ¬ (B : Int) ≤ i := by omega
  have t2 : decide ((B : Int) ≤ (i : Int)) = false := decide_eq_false h2
  clear h hcs hsd hD hqn hq hn
  go_enter Tryd.func19, Tryd.ntmps19
  go_wp2_with fail
  refine hb.mono ?_
  rintro e w' ⟨rfl, rfl⟩
  clear hb
  go_wp2_with fail
  refine region_old (by kernel_rfl) (fun wd hHeld hSz => ?_)
  have HSz := Lib.hid hSz
  clear hSz
  refine takeL (i := 0) (v := ?_) rfl (by kernel_rfl) (by kernel_rfl) (by kernel_rfl) (fun _ _ _ h => h) (Or.inl ⟨by rfl, ?_⟩) hHeld ?_
  rotate_left
  focus (intro wq hSw; clear hSw; go_simp; try with_reducible rfl)
  try simp only [Act.put, List.setIfInBounds_toArray, List.set_cons_zero, List.set_cons_succ]
  refine takeL (i := 1) (v := ?_) rfl (by kernel_rfl) (by kernel_rfl) (by kernel_rfl) (fun _ _ _ h => h) (Or.inl ⟨by rfl, ?_⟩) hHeld ?_
  rotate_left
  focus (intro wq hSw; clear hSw; go_simp; try with_reducible rfl)
  try simp only [Act.put, List.setIfInBounds_toArray, List.set_cons_zero, List.set_cons_succ]
  refine takeL (i := 2) (v := ?_) rfl (by kernel_rfl) (by kernel_rfl) (by kernel_rfl) (fun _ _ _ h => h) (Or.inl ⟨by rfl, ?_⟩) hHeld ?_
  rotate_left
  focus (intro wq hSw; clear hSw; go_simp; try with_reducible rfl)
  try simp only [Act.put, List.setIfInBounds_toArray, List.set_cons_zero, List.set_cons_succ]
  refine takeL (i := 3) (v := ?_) rfl (by kernel_rfl) (by kernel_rfl) (by kernel_rfl) (fun _ _ _ h => h) (Or.inl ⟨by rfl, ?_⟩) hHeld ?_
  rotate_left
  focus (intro wq hSw; obtain ⟨k0, k1, k2, k3⟩ := HS.out.2.1; have e0 := cell_old hSw k0; have e1 := cell_old hSw k1; have e2 := cell_old hSw k2; clear k0 k1 k2 k3; clear hSw; go_simp; try with_reducible rfl)
  try simp only [Act.put, List.setIfInBounds_toArray, List.set_cons_zero, List.set_cons_succ]
  refine takeL (i := 4) (v := ?_) rfl (by kernel_rfl) (by kernel_rfl) (by kernel_rfl) (fun _ _ _ h => h) (Or.inl ⟨by rfl, ?_⟩) hHeld ?_
  rotate_left
  focus (intro wq hSw; clear hSw; go_simp; try with_reducible rfl)
  try simp only [Act.put, List.setIfInBounds_toArray, List.set_cons_zero, List.set_cons_succ]
  refine takeL (i := 5) (v := ?_) rfl (by kernel_rfl) (by kernel_rfl) (by kernel_rfl) (fun _ _ _ h => h) (Or.inl ⟨by rfl, ?_⟩) hHeld ?_
  rotate_left
  focus (intro wq hSw; clear hSw; go_simp; try with_reducible rfl)
  try simp only [Act.put, List.setIfInBounds_toArray, List.set_cons_zero, List.set_cons_succ]
  refine takeL (i := 6) (v := ?_) rfl (by kernel_rfl) (by kernel_rfl) (by kernel_rfl) (fun _ _ _ h => h) (Or.inl ⟨by rfl, ?_⟩) hHeld ?_
  rotate_left
  focus (intro wq hSw; clear hSw; go_simp; try with_reducible rfl)
  try simp only [Act.put, List.setIfInBounds_toArray, List.set_cons_zero, List.set_cons_succ]
  refine takeL (i := 7) (v := ?_) rfl (by kernel_rfl) (by kernel_rfl) (by kernel_rfl) (fun _ _ _ h => h) (Or.inl ⟨by rfl, ?_⟩) hHeld ?_
  rotate_left
  focus (intro wq hSw; obtain ⟨k0, k1, k2, k3⟩ := HS.out.2.1; have e0 := cell_old hSw k0; have e1 := cell_old hSw k1; have e2 := cell_old hSw k2; clear k0 k1 k2 k3; clear hSw; go_simp; try with_reducible rfl)
  try simp only [Act.put, List.setIfInBounds_toArray, List.set_cons_zero, List.set_cons_succ]
  refine takeL (i := 8) (v := ?_) rfl (by kernel_rfl) (by kernel_rfl) (by kernel_rfl) (fun _ _ _ h => h) (Or.inl ⟨by rfl, ?_⟩) hHeld ?_
  rotate_left
  focus (intro wq hSw; clear hSw; go_simp; try with_reducible rfl)
  try simp only [Act.put, List.setIfInBounds_toArray, List.set_cons_zero, List.set_cons_succ]
  refine takeL (i := 9) (v := ?_) rfl (by kernel_rfl) (by kernel_rfl) (by kernel_rfl) (fun _ _ _ h => h) (Or.inl ⟨by rfl, ?_⟩) hHeld ?_
  rotate_left
  focus (intro wq hSw; clear hSw; go_simp; try with_reducible rfl)
  try simp only [Act.put, List.setIfInBounds_toArray, List.set_cons_zero, List.set_cons_succ]
  refine takeL (i := 10) (v := ?_) rfl (by kernel_rfl) (by kernel_rfl) (by kernel_rfl) (fun _ _ _ h => h) (Or.inl ⟨by rfl, ?_⟩) hHeld ?_
  rotate_left
  focus (intro wq hSw; clear hSw; go_simp; try with_reducible rfl)
  try simp only [Act.put, List.setIfInBounds_toArray, List.set_cons_zero, List.set_cons_succ]
  refine takeL (i := 11) (v := ?_) rfl (by kernel_rfl) (by kernel_rfl) (by kernel_rfl) (fun _ _ _ h => h) (Or.inl ⟨by rfl, ?_⟩) hHeld ?_
  rotate_left
  focus (intro wq hSw; obtain ⟨k0, k1, k2, k3⟩ := HS.out.2.1; have e0 := cell_old hSw k0; have e1 := cell_old hSw k1; have e2 := cell_old hSw k2; clear k0 k1 k2 k3; clear hSw; go_simp; try with_reducible rfl)
  try simp only [Act.put, List.setIfInBounds_toArray, List.set_cons_zero, List.set_cons_succ]
  refine takeL (i := 12) (v := ?_) rfl (by kernel_rfl) (by kernel_rfl) (by kernel_rfl) (fun _ _ _ h => h) (Or.inl ⟨by rfl, ?_⟩) hHeld ?_
  rotate_left
  focus (intro wq hSw; clear hSw; go_simp; try with_reducible rfl)
  try simp only [Act.put, List.setIfInBounds_toArray, List.set_cons_zero, List.set_cons_succ]
  refine wpAnyH_ready (rs := [13]) (by kernel_rfl) (by simp) ?_
  refine consL rfl (fun K hK => ?_) AllReadyH.nil
  go_simp
  refine (HS.out.1 _).mono ?_
  rintro e w' ⟨rfl, rfl⟩
  refine hK.out _ _ (by repeat (first | exact hHeld | exact Old.refl _ | assumption | refine Old.drew ?_ | refine Old.drewN ?_ _ | refine Old.alloc ?_ _)) (fun hHeld => ?_)
  clear hK K
  try simp only [Act.put, List.setIfInBounds_toArray, List.set_cons_zero, List.set_cons_succ]
  refine wpAnyH_ready (rs := [14]) (by kernel_rfl) (by simp) ?_
  refine consL rfl (fun K hK => ?_) AllReadyH.nil
  go_simp
  refine (dkread_any d L s _ (HS.out.2.2.1.below hHeld) q HS.out.2.2.2).mono ?_
  rintro e w2 ⟨g2, c2, rfl, hO2, hl2, hb2⟩
  have HO2 := Lib.hid (And.intro (hO2.mono (base' := w.heap.size) hHeld.size) hl2)
  have hb2' := Old.trans hHeld hb2
  clear hO2 hl2
  refine hK.out _ _ hb2' (fun hHeld => ?_)
  clear hK K
  try simp only [Act.put, List.setIfInBounds_toArray, List.set_cons_zero, List.set_cons_succ]
  refine takeL (i := 15) (v := ?_) rfl (by kernel_rfl) (by kernel_rfl) (by kernel_rfl) (fun _ _ _ h => h) (Or.inl ⟨by rfl, ?_⟩) hHeld ?_
  rotate_left
  focus (intro wq hSw; clear hSw; go_simp; try with_reducible rfl)
  try simp only [Act.put, List.setIfInBounds_toArray, List.set_cons_zero, List.set_cons_succ]
  refine wpAnyH_done (by kernel_rfl) ?_ _
  refine NoPanic.normal ?_
  try simp only [Exit.then]
  have H9 := Lib.hid (And.intro HO2.out hHeld)
  clear hHeld
  go_wp2_with fail
  go_ret
  exact ⟨_, _, rfl, H9.out.1.1, H9.out.1.2, H9.out.2⟩
/-- A device of zeros is formatted. -/
def Dsk.fmt (s : Dsk) : Bool × Dsk :=
  if s.sy.1 = false then (false, s.sy.2) else if s.sy.2.sy.1 = false then (false, s.sy.2.sy.2)
  else if (s.sy.2.sy.2.wr 0 (headB 0)).1 = false then (false, (s.sy.2.sy.2.wr 0 (headB 0)).2) else (s.sy.2.sy.2.wr 0 (headB 0)).2.sy
theorem head0_ne : zs 256 ≠ headB 0 := by
  intro e
  have := congrArg (fun l => l.head?) e
  simp [headB, headA, magicB, zs] at this
theorem format_nil (w : World) : Calls Tryd.prog 16 #[.pointer none] w fun e w' => e = .returned (.int .i64 7) ∧ w = w' := by
  have h1 := refused_nil w
  go_enter Tryd.func16, Tryd.ntmps16
  go_wp2_with fail
  refine h1.mono ?_
  rintro e w' ⟨rfl, rfl⟩
  go_wp2_with fail
  go_ret
  exact ⟨rfl, rfl⟩
theorem format_no (d L : Nat) (s : Dsk) (w : World) (h : DkAt w d L s) (hn : s.n < 16) :
    Calls Tryd.prog 16 #[.pointer (some ⟨d, 0, none⟩)] w fun e w' => e = .returned (.int .i64 7) ∧ w = w' := by
  have h1 := refused_any d L s w h
  rw [if_pos hn] at h1
  go_enter Tryd.func16, Tryd.ntmps16
  go_wp2_with fail
  refine h1.mono ?_
  rintro e w' ⟨rfl, rfl⟩
  go_wp2_with fail
  go_ret
  exact ⟨rfl, rfl⟩
theorem format_dead (d L : Nat) (s : Dsk) (w : World) (h : DkAt w d L s) (hn : 16 ≤ s.n) (hd : s.dead = true) :
    Calls Tryd.prog 16 #[.pointer (some ⟨d, 0, none⟩)] w fun e w' => e = .returned (.int .i64 48) ∧ w = w' := by
  have h1 := refused_any d L s w h
  rw [if_neg (by omega), hd, if_pos rfl] at h1
  go_enter Tryd.func16, Tryd.ntmps16
  go_wp2_with fail
  refine h1.mono ?_
  rintro e w' ⟨rfl, rfl⟩
  go_wp2_with fail
  go_ret
  exact ⟨rfl, rfl⟩
theorem format_any (d L : Nat) (s : Dsk) (w : World) (h : DkAt w d L s) (hn : 16 ≤ s.n) (hn2 : s.n ≤ 1000) (hd : s.dead = false) (hf : FOk s 0) (hz : ∀ i, i < s.n → s.rd i = zs 256) (hK : KAt w) :
    Calls Tryd.prog 16 #[.pointer (some ⟨d, 0, none⟩)] w fun e w' => e = .returned (.int .i64 (if s.fmt.1 then 0 else 48)) ∧ DkAt w' d L s.fmt.2 ∧ Turn [d, L] w w' := by
  have h1 := refused_any d L s w h
  rw [if_neg (by omega), hd, if_neg (by decide)] at h1
  obtain ⟨qok, qs, hq⟩ : ∃ qok qs, s.fmt = (qok, qs) := ⟨_, _, rfl⟩
  rw [hq]
  unfold Dsk.fmt at hq
  simp only
  have hmk := Tryd.prog_make 256 (by decide) w
  rw [show ((256 : Nat) : Int) = 256 from rfl] at hmk
  obtain ⟨X, hX⟩ : ∃ X, w.heap.size = X := ⟨_, rfl⟩
  obtain ⟨w1, hw1⟩ : ∃ w1, w.alloc (.cells (madeCells #[.int .u8 0] 256) 5) = w1 := ⟨_, rfl⟩
  have hO := Own.made w 256 (by decide)
  have hb1 : Below w.heap.size w w1 := by rw [← hw1]; exact (Below.refl _ _).alloc (Nat.le_refl _) _
  rw [hw1, hX] at hO hmk
  have hs1 : w1.heap.size = X + 1 := by rw [← hw1, ← hX]; simp
  have H1 := Lib.hid (And.intro (h.below hb1) (And.intro hO (And.intro (Turn.of_below [d, L] hb1) (And.intro (hK.below hb1) (And.intro hz (And.intro hn hn2))))))
  have HQ := Lib.hid hq
  have hnb : (s.n : Int) ≤ 1000 := by omega
  have hwr : ∀ (i : Nat) (W : World), i < s.n → DkAt W d L s → Own W X (.slice (some ⟨X, 0, none⟩) 256 256) (zs 256) → Calls Tryd.prog 30 #[.pointer (some ⟨d, 0, none⟩), .int .i64 (i : Int), .slice (some ⟨X, 0, none⟩) 256 256] W fun e w' => e = .returned (.bool true) ∧ (DkAt w' d L s ∧ Own w' X (.slice (some ⟨X, 0, none⟩) 256 256) (zs 256)) ∧ Turn [d, L] W w' := fun i W hi hD hO' => by
    refine (wrote_any d L s W 0 hD hf (by omega) i hi X 0 256 (zs 256) hO'.at_ (by decide) ⟨Nat.le_refl _, by decide⟩).mono ?_
    rintro e w' ⟨he, h2, h3⟩
    have hw : s.wrote i (zs 256) = (true, s) := by unfold Dsk.wrote; rw [if_pos (hz i hi)]
    rw [hw] at he h2
    exact ⟨he, ⟨h2, hO'.turn h3 (hO'.beside hD)⟩, h3⟩
  have HW := Lib.hid hwr
  have hsec : ∀ W, DkAt W d L s → Calls Tryd.prog 29 #[.pointer (some ⟨d, 0, none⟩)] W fun e w' => e = .returned (.int .i64 (s.n : Int)) ∧ W = w' := fun W hD => by
    obtain ⟨xs, hx⟩ := hD
    exact sectors_any d L xs s W hx
  have HSec := Lib.hid hsec
  have HF := Lib.hid hf
  clear h hO hb1 hK hz hn hq hwr hsec hd hf
  go_enter Tryd.func16, Tryd.ntmps16
  go_wp2_with fail
  refine h1.mono ?_
  rintro e w' ⟨rfl, rfl⟩
  clear h1
  go_wp2_with fail
  try rw [hw1]
  try rw [hX]
  clear hmk hw1
  go_wp2_with fail
  go_loopw [14] (fun kk wr => ∃ i : Nat, i ≤ 2 ∧ kk = .int .i64 (i : Int) ∧ DkAt wr d L s ∧ Own wr X (.slice (some ⟨X, 0, none⟩) 256 256) (zs 256) ∧ Turn [d, L] w1 wr) (fun kk _ => 2 - (intOf kk).toNat)
  case atStart => exact ⟨0, by omega, rfl, H1.out.1, H1.out.2.1, Turn.refl _ _⟩
  case round =>
    obtain ⟨i, hi, rfl, hD, hO, hT⟩ := hrel
    by_cases hlt : i < 2
    · have hlti : (i : Int) < 2 := by omega
      have hltd : decide ((i : Int) < 2) = true := decide_eq_true hlti
      have hc := HW.out i wr (by have := H1.out.2.2.2.2.2.1; omega) hD hO
      have HT := Lib.hid hT
      clear hD hO hT
      go_wp2_with fail
      refine hc.mono ?_
      rintro e w2 ⟨rfl, ⟨hD, hO⟩, hT2⟩
      have H2 := Lib.hid (And.intro hD (And.intro hO (HT.out.trans hT2 (fun x hx => .inl hx))))
      clear hD hO hT2 hc
      go_wp2_with fail
      go_roundw
      case measure => simp [intOf]; omega
      exact ⟨i + 1, by omega, by simp, H2.out.1, H2.out.2.1, H2.out.2.2⟩
    · obtain rfl : i = 2 := by omega
      have HL := Lib.hid (And.intro hD (And.intro hO (And.intro hT (H1.out.2.2.2.1.beside H1.out.1 hT))))
      clear hD hO hT
      have hs := dksync_any d L s wr 0 HL.out.1 HF.out (by omega)
      have f1 := sy_fok HF.out
      have n1 := (sy_did s).n
      have r1 := fun j => sy_rd (s := s) (j := j)
      obtain ⟨ok1, s1, hr1⟩ : ∃ ok1 s1, s.sy = (ok1, s1) := ⟨_, _, rfl⟩
      rw [hr1] at hs f1 n1 r1
      have hq := HQ.out
      rw [hr1] at hq
      simp only at hs f1 n1 r1 hq
      have HQ := Lib.hid hq
      have HR1 := Lib.hid (And.intro f1 (And.intro n1 r1))
      clear hq hr1 f1 n1 r1
      go_wp2_with fail
      refine hs.mono ?_
      rintro e w3 ⟨rfl, hD3, hT3⟩
      have H3 := Lib.hid (And.intro hD3 (And.intro (HL.out.2.1.turn hT3 (HL.out.2.1.beside HL.out.1)) (And.intro (HL.out.2.2.1.trans hT3 (fun x hx => .inl hx)) (HL.out.2.2.2.beside HL.out.1 hT3))))
      clear hD3 hT3 hs
      cases ok1 with
      | false =>
        have hq := HQ.out
        rw [if_pos rfl] at hq
        injection hq with e1 e2
        subst e1 e2
        go_wp2_with fail
        go_ret
        exact ⟨rfl, H3.out.1, H1.out.2.2.1.trans H3.out.2.2.1 (fun x hx => .inl hx)⟩
      | true =>
        have hq := HQ.out
        simp only [Bool.true_eq_false, if_false] at hq
        have HQ := Lib.hid hq
        clear hq
        have hz1 : ∀ i, i < s1.n → s1.rd i = zs 256 := fun i hi => by rw [HR1.out.2.2]; exact H1.out.2.2.2.2.1 i (by rw [← HR1.out.2.1]; exact hi)
        have hwr1 : ∀ (i : Nat) (W : World), i < s1.n → DkAt W d L s1 → Own W X (.slice (some ⟨X, 0, none⟩) 256 256) (zs 256) → Calls Tryd.prog 30 #[.pointer (some ⟨d, 0, none⟩), .int .i64 (i : Int), .slice (some ⟨X, 0, none⟩) 256 256] W fun e w' => e = .returned (.bool true) ∧ (DkAt w' d L s1 ∧ Own w' X (.slice (some ⟨X, 0, none⟩) 256 256) (zs 256)) ∧ Turn [d, L] W w' := fun i W hi hD hO' => by
          refine (wrote_any d L s1 W 1 hD HR1.out.1 (by omega) i hi X 0 256 (zs 256) hO'.at_ (by decide) ⟨Nat.le_refl _, by decide⟩).mono ?_
          rintro e w' ⟨he, h2, h3⟩
          have hw : s1.wrote i (zs 256) = (true, s1) := by unfold Dsk.wrote; rw [if_pos (hz1 i hi)]
          rw [hw] at he h2
          exact ⟨he, ⟨h2, hO'.turn h3 (hO'.beside hD)⟩, h3⟩
        have hsc : Calls Tryd.prog 29 #[.pointer (some ⟨d, 0, none⟩)] w3 fun e w' => e = .returned (.int .i64 (s.n : Int)) ∧ w3 = w' := by
          obtain ⟨xs, hx⟩ := H3.out.1
          have := sectors_any d L xs s1 w3 hx
          rw [show s1.secs.length = s.n from HR1.out.2.1] at this
          exact this
        obtain ⟨B, hB⟩ : ∃ B, (s.n - 8) / 2 = B := ⟨_, rfl⟩
        have hn16 := H1.out.2.2.2.2.2.1
        have hBi : ((s.n : Int) - 8).tdiv 2 = (B : Int) := by rw [Int.tdiv_eq_ediv_of_nonneg (by omega)]; omega
        have hBn : 8 + B ≤ s1.n := by have := HR1.out.2.1; omega
        have hBb : B ≤ 500 := by omega
        have HW1 := Lib.hid (And.intro hwr1 (And.intro hBn hB))
        clear hwr1 hz1 hBn hB hn16
        go_wp2_with fail
        refine hsc.mono ?_
        rintro e w' ⟨rfl, rfl⟩
        clear hsc
        go_wp2_with fail
        obtain ⟨wl, hwl⟩ : ∃ wl, wl = w3 := ⟨_, rfl⟩
        subst hwl
        go_loopw [31] (fun kk wr => ∃ i : Nat, i ≤ B ∧ kk = .int .i64 (i : Int) ∧ DkAt wr d L s1 ∧ Own wr X (.slice (some ⟨X, 0, none⟩) 256 256) (zs 256) ∧ Turn [d, L] wl wr) (fun kk _ => B - (intOf kk).toNat)
        case atStart => exact ⟨0, by omega, rfl, H3.out.1, H3.out.2.1, Turn.refl _ _⟩
        case round =>
          obtain ⟨i, hi, rfl, hD, hO, hT⟩ := hrel
          by_cases hlt : i < B
          · have hlti : (i : Int) < B := by omega
            have hltd : decide ((i : Int) < (B : Int)) = true := decide_eq_true hlti
            have hsd := side_any B 0 i (by omega) (by omega) (by omega) wr
            rw [show 8 + 0 % 2 * B + i = 8 + i by omega, show ((0 : Nat) : Int) = 0 from rfl] at hsd
            have hc := HW1.out.1 (8 + i) wr (by have := HW1.out.2.1; omega) hD hO
            have HT := Lib.hid hT
            clear hD hO hT
            go_wp2_with fail
            refine hsd.mono ?_
            rintro e w' ⟨rfl, rfl⟩
            clear hsd
            go_wp2_with fail
            refine hc.mono ?_
            rintro e w2 ⟨rfl, ⟨hD, hO⟩, hT2⟩
            have H2 := Lib.hid (And.intro hD (And.intro hO (HT.out.trans hT2 (fun x hx => .inl hx))))
            clear hD hO hT2 hc
            go_wp2_with fail
            go_roundw
            case measure => simp [intOf]; omega
            exact ⟨i + 1, by omega, by simp, H2.out.1, H2.out.2.1, H2.out.2.2⟩
          · obtain rfl : i = B := by omega
            have hlti : ¬ (i : Int) < i := by omega
            have hltd : decide ((i : Int) < (i : Int)) = false := decide_eq_false hlti
            have HL := Lib.hid (And.intro hD (And.intro (hT) (And.intro (H3.out.2.2.2.beside H3.out.1 hT) (H1.out.2.2.1.trans (H3.out.2.2.1.trans hT (fun x hx => .inl hx)) (fun x hx => .inl hx)))))
            clear hD hO hT
            have hs := dksync_any d L s1 wr 1 HL.out.1 HR1.out.1 (by omega)
            have f2 := sy_fok HR1.out.1
            have n2 := (sy_did s1).n
            have r2 := fun j => sy_rd (s := s1) (j := j)
            obtain ⟨ok2, s2, hr2⟩ : ∃ ok2 s2, s1.sy = (ok2, s2) := ⟨_, _, rfl⟩
            have hq := HQ.out
            rw [hr2] at hs f2 n2 r2 hq
            simp only at hs f2 n2 r2 hq
            have HQ := Lib.hid hq
            have HR2 := Lib.hid (And.intro f2 (And.intro n2 r2))
            clear hq hr2 f2 n2 r2
            go_wp2_with fail
            refine hs.mono ?_
            rintro e w5 ⟨rfl, hD5, hT5⟩
            have H5 := Lib.hid (And.intro hD5 (And.intro (HL.out.2.2.2.trans hT5 (fun x hx => .inl hx)) (HL.out.2.2.1.beside HL.out.1 hT5)))
            clear hD5 hT5 hs
            cases ok2 with
            | false =>
              have hq := HQ.out
              rw [if_pos rfl] at hq
              injection hq with e1 e2
              subst e1 e2
              go_wp2_with fail
              go_ret
              exact ⟨rfl, H5.out.1, H5.out.2.1⟩
            | true =>
              have hq := HQ.out
              simp only [Bool.true_eq_false, if_false] at hq
              have HQ := Lib.hid hq
              clear hq
              have hh := head_any 0 (by decide) w5 H5.out.2.2
              rw [show ((0 : Nat) : Int) = 0 from rfl] at hh
              go_wp2_with fail
              refine hh.mono ?_
              rintro e w6 ⟨A6, n6, c6, rfl, hO6, hb6⟩
              clear hh
              obtain rfl : n6 = 256 := by have := hO6.len; rw [headB_len] at this; exact this
              obtain ⟨b6, off6, rfl, hat6⟩ := hO6.rd.addr (by omega)
              have hne : s2.rd 0 ≠ headB 0 := by
                rw [HR2.out.2.2, HR1.out.2.2, H1.out.2.2.2.2.1 0 (by have := H1.out.2.2.2.2.2.1; omega)]; exact head0_ne
              have hn2 : 0 < s2.n := by have := HR2.out.2.1; have := HR1.out.2.1; have := H1.out.2.2.2.2.2.1; omega
              have hwo := wrote_any d L s2 w6 2 (H5.out.1.below hb6) HR2.out.1 (by omega) 0 hn2 b6 off6 c6 (headB 0) hat6 (headB_len 0) ⟨hO6.rd.2.1, hO6.rd.2.2.1⟩
              have hwe : s2.wrote 0 (headB 0) = s2.wr 0 (headB 0) := by unfold Dsk.wrote; rw [if_neg hne]
              have f3 := wr_fok HR2.out.1 0 (headB 0)
              rw [hwe] at hwo
              obtain ⟨ok3, s3, hr3⟩ : ∃ ok3 s3, s2.wr 0 (headB 0) = (ok3, s3) := ⟨_, _, rfl⟩
              have hq := HQ.out
              rw [hr3] at hwo f3 hq
              simp only at hwo f3 hq
              rw [show ((0 : Nat) : Int) = 0 from rfl] at hwo
              have HQ := Lib.hid hq
              have H6 := Lib.hid (And.intro f3 (H5.out.2.1.trans (Turn.of_below [d, L] hb6) (fun x hx => .inl hx)))
              clear hq hr3 f3 hwe hne hn2 hb6 hat6 hO6
              go_wp2_with fail
              refine hwo.mono ?_
              rintro e w7 ⟨rfl, hD7, hT7⟩
              have H7 := Lib.hid (And.intro hD7 (H6.out.2.trans hT7 (fun x hx => .inl hx)))
              clear hD7 hT7 hwo
              cases ok3 with
              | false =>
                have hq := HQ.out
                rw [if_pos rfl] at hq
                injection hq with e1 e2
                subst e1 e2
                go_wp2_with fail
                go_ret
                exact ⟨rfl, H7.out.1, H7.out.2⟩
              | true =>
                have hq := HQ.out
                simp only [Bool.true_eq_false, if_false] at hq
                have HQ := Lib.hid hq
                clear hq
                have hs := dksync_any d L s3 w7 3 H7.out.1 H6.out.1 (by omega)
                obtain ⟨ok4, s4, hr4⟩ : ∃ ok4 s4, s3.sy = (ok4, s4) := ⟨_, _, rfl⟩
                have hq := HQ.out
                rw [hr4] at hs hq
                simp only at hs
                injection hq with e1 e2
                subst e1 e2
                clear hr4
                go_wp2_with fail
                refine hs.mono ?_
                rintro e w8 ⟨rfl, hD8, hT8⟩
                have H8 := Lib.hid (And.intro hD8 (H7.out.2.trans hT8 (fun x hx => .inl hx)))
                clear hD8 hT8 hs
                cases ok4 with
                | false =>
                  go_wp2_with fail
                  go_ret
                  exact ⟨rfl, H8.out.1, H8.out.2⟩
                | true =>
                  go_wp2_with fail
                  go_ret
                  exact ⟨rfl, H8.out.1, H8.out.2⟩
end Go.Proofs.YtomngfihaohgdaaDoor
