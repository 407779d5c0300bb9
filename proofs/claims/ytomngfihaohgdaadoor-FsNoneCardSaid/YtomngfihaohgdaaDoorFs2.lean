/-
  blockfs: side, refused, wrote, Blocks, Commits, Read.
-/
import Derived.Test.YtomngfihaohgdaaDoorFs1
import Derived.Test.YtomngfihaohgdaaDoorReg
namespace Go.Proofs.YtomngfihaohgdaaDoor
set_option maxRecDepth 100000
open Go.RowKit

theorem equalB_any (A : Option Addr) (m c : Nat) (A' : Option Addr) (m' c' : Nat) (l l' : List UInt8) (w : World) (hr : Rd w A m c l) (hr' : Rd w A' m' c' l') :
    Calls Tryd.prog 41 #[.slice A m c, .slice A' m' c'] w fun e w' => (e = .returned (.bool (decide (l = l')))) ∧ w = w' := by
  have s1 := hr.str
  have s2 := hr'.str
  clear hr hr'
  by_cases he : l = l'
  · rw [decide_eq_true he]
    subst he
    go_enter Tryd.func41, Tryd.ntmps41
    go_wp2
    go_ret
    exact ⟨by first | rfl | simp, rfl⟩
  · rw [decide_eq_false he]
    have hn : (⟨l.toArray⟩ : ByteArray) ≠ ⟨l'.toArray⟩ := fun e => he (by simpa using congrArg (fun b => b.data.toList) e)
    go_enter Tryd.func41, Tryd.ntmps41
    go_wp2
    go_ret
    exact ⟨by first | rfl | simp [hn, he], rfl⟩
theorem cell_old {w w' : World} {b o : Nat} {v : Value} (ht : Old w w') (h : w.cell? ⟨b, o, none⟩ = some v) : w'.cell? ⟨b, o, none⟩ = some v := cell_turn h (Turn.of_below [] ht) (by simp)
/-- A device in memory. -/
def DkAt (w : World) (d L : Nat) (s : Dsk) : Prop := ∃ xs, DiskAt w d L xs s
theorem DkAt.below {w w' : World} {d L : Nat} {s : Dsk} (h : DkAt w d L s) (hb : Below w.heap.size w w') : DkAt w' d L s := by
  obtain ⟨xs, h⟩ := h; exact ⟨xs, h.below hb⟩
theorem DkAt.n {w : World} {d L : Nat} {s : Dsk} (h : DkAt w d L s) : 0 < s.n ∧ s.n ≤ 65536 := by obtain ⟨xs, h⟩ := h; exact ⟨h.2.2.2.1, h.2.2.2.2⟩
theorem DkAt.lt {w : World} {d L : Nat} {s : Dsk} (h : DkAt w d L s) : d < w.heap.size ∧ L < w.heap.size := by obtain ⟨xs, h⟩ := h; exact ⟨h.1.lt, h.2.1.lt⟩
theorem DkAt.typed {w : World} {d L : Nat} {s : Dsk} (h : DkAt w d L s) : (∃ cs, Blk w d 67 cs) ∧ ∃ cs, Blk w L 69 cs := by
  obtain ⟨xs, h⟩ := h; exact ⟨⟨_, h.1⟩, ⟨_, h.2.1⟩⟩
theorem rd_lt {s : Dsk} {i : Nat} (hi : i < s.n) : s.rd i = s.secs[i].read := by
  unfold Dsk.rd
  rw [List.getElem?_eq_getElem hi]; rfl
/-- What is owned, or is of another type, is beside a device. -/
theorem Own.beside {w : World} {base : Nat} {v : Value} {l : List UInt8} (h : Own w base v l) {d L : Nat} {s : Dsk} (hd : DkAt w d L s) : ∀ g, v.ownBlock = some g → g ∉ [d, L] := by
  intro g hg hm
  obtain ⟨⟨cs, h1⟩, cs2, h2⟩ := hd.typed
  simp at hm
  rcases hm with rfl | rfl
  · exact h.ne h1 (by decide) hg
  · exact h.ne h2 (by decide) hg
theorem KAt.beside {w w' : World} (h : KAt w) {d L : Nat} {s : Dsk} (hd : DkAt w d L s) (ht : Turn [d, L] w w') : KAt w' := by
  obtain ⟨xs, h1, h2, h3, h4, _⟩ := hd
  have hk := h.2 0 _ (show kTab[0]? = some (kTab.getD 0 0) from rfl)
  have key : ∀ g : Nat, g = 0 → w.cell? ⟨g, 0, none⟩ = some (U64 (kTab.getD 0 0)) := fun g hg => by rw [hg]; exact hk
  refine h.turn ht (fun hm => ?_)
  rw [List.mem_cons, List.mem_singleton] at hm
  rcases hm with e | e
  · have hk := key d e.symm
    rw [h1.cell] at hk
    cases hk
  · obtain ⟨x, hx⟩ : ∃ x, xs[0]? = some x := ⟨_, List.getElem?_eq_getElem (by rw [h3.1]; exact h4)⟩
    obtain ⟨A1, n1, c1, e1⟩ := (h3.2 0 x _ hx (List.getElem?_eq_getElem h4)).1.slice
    have h0 := (encS_get xs 0 x hx).1
    rw [Nat.zero_mul] at h0
    have hk := key L e.symm
    rw [h2.cell, List.getElem?_toArray, h0, e1] at hk
    cases hk
theorem dkread_any (d L : Nat) (s : Dsk) (w : World) (h : DkAt w d L s) (i : Nat) (hi : i < s.n) :
    Calls Tryd.prog 36 #[.pointer (some ⟨d, 0, none⟩), .int .i64 (i : Int)] w fun e w' =>
      ∃ g c', e = .returned (.slice (some ⟨g, 0, none⟩) 256 c') ∧ Own w' w.heap.size (.slice (some ⟨g, 0, none⟩) 256 c') (s.rd i) ∧ (s.rd i).length = 256 ∧ Below w.heap.size w w' := by
  obtain ⟨xs, h⟩ := h
  rw [rd_lt hi]
  exact read_in d L xs s w h i hi
theorem dkwrite_any (d L : Nat) (s : Dsk) (w : World) (k : Nat) (h : DkAt w d L s) (hf : FOk s k) (hk : k < 1000000) (i : Nat) (hi : i < s.n) (b off c : Nat) (l : List UInt8) (hb : At w b off l) (hl : l.length = 256) :
    Calls Tryd.prog 42 #[.pointer (some ⟨d, 0, none⟩), .int .i64 (i : Int), .slice (some ⟨b, off, none⟩) 256 c] w fun e w' =>
      e = .returned (.bool (s.wr i l).1) ∧ DkAt w' d L (s.wr i l).2 ∧ Turn [d, L] w w' := by
  obtain ⟨xs, h⟩ := h
  unfold Dsk.wr
  cases hd : s.dead with
  | true =>
    refine (write_no d L xs s i (some ⟨b, off, none⟩) 256 c w h (.inl hd)).mono ?_
    rintro e w' ⟨rfl, rfl⟩
    exact ⟨rfl, ⟨xs, h⟩, Turn.refl _ _⟩
  | false =>
    refine (write_in d L xs s w h hd i hi b off c l hb hl (Nat.lt_of_le_of_lt hf.count hk) (fun hfu => ⟨hf.left hfu hd, by have := hf.most; omega⟩)).mono ?_
    rintro e w' ⟨rfl, h1, h2⟩
    exact ⟨rfl, h1, h2⟩
theorem dksync_any (d L : Nat) (s : Dsk) (w : World) (k : Nat) (h : DkAt w d L s) (hf : FOk s k) (hk : k < 1000000) :
    Calls Tryd.prog 31 #[.pointer (some ⟨d, 0, none⟩)] w fun e w' => e = .returned (.bool s.sy.1) ∧ DkAt w' d L s.sy.2 ∧ Turn [d, L] w w' := by
  obtain ⟨xs, h⟩ := h
  unfold Dsk.sy
  by_cases hd' : s.dead = true
  · rw [if_pos hd']
    refine (sync_dead d L xs s w h hd').mono ?_
    rintro e w' ⟨rfl, rfl⟩
    exact ⟨rfl, ⟨xs, h⟩, Turn.refl _ _⟩
  · rw [if_neg hd']
    have hd : s.dead = false := by cases h0 : s.dead with | false => rfl | true => exact absurd h0 hd'
    refine (sync_any d L xs s w h hd (Nat.lt_of_le_of_lt hf.count hk) (fun hfu => ⟨hf.left hfu hd, by have := hf.most; omega⟩)).mono ?_
    rintro e w' ⟨rfl, h1, h2⟩
    exact ⟨rfl, h1, h2⟩
theorem side_any (B c i : Nat) (hB : B ≤ 1000000) (hc : c ≤ 1000000) (hi : i ≤ 1000000) (w : World) :
    Calls Tryd.prog 32 #[.int .i64 (B : Int), .int .i64 (c : Int), .int .i64 (i : Int)] w fun e w' => e = .returned (.int .i64 ((8 + c % 2 * B + i : Nat) : Int)) ∧ w = w' := by
  obtain ⟨r, hr⟩ : ∃ r, c % 2 = r := ⟨_, rfl⟩
  have hr1 : (c : Int).tmod 2 = (r : Int) := by rw [Int.tmod_eq_emod_of_nonneg (by omega)]; omega
  rw [hr]
  rcases (show r = 0 ∨ r = 1 by omega) with rfl | rfl
  · clear hr
    go_enter Tryd.func32, Tryd.ntmps32
    go_wp2
    go_ret
    exact ⟨by congr 2; simp, rfl⟩
  · clear hr
    go_enter Tryd.func32, Tryd.ntmps32
    go_wp2
    go_ret
    exact ⟨by congr 2; simp, rfl⟩
theorem refused_nil (w : World) : Calls Tryd.prog 27 #[.pointer none] w fun e w' => e = .returned (.int .i64 7) ∧ w = w' := by
  have h1 := sectors_nil w
  go_enter Tryd.func27, Tryd.ntmps27
  go_wp2_with fail
  refine h1.mono ?_
  rintro e w' ⟨rfl, rfl⟩
  go_wp2_with fail
  go_ret
  exact ⟨rfl, rfl⟩
theorem refused_any (d L : Nat) (s : Dsk) (w : World) (h : DkAt w d L s) :
    Calls Tryd.prog 27 #[.pointer (some ⟨d, 0, none⟩)] w fun e w' => e = .returned (.int .i64 (if s.n < 16 then 7 else if s.dead then 48 else 0)) ∧ w = w' := by
  obtain ⟨xs, h⟩ := h
  have h1 := sectors_any d L xs s w h
  have h2 := dead_any d L xs s w h
  have hn := h.2.2.2.2
  rw [show s.secs.length = s.n from rfl] at h1 hn
  obtain ⟨N, hN⟩ : ∃ N, s.n = N := ⟨_, rfl⟩
  obtain ⟨dd, hdd⟩ : ∃ dd, s.dead = dd := ⟨_, rfl⟩
  rw [hN] at h1 hn
  rw [hN, hdd]
  rw [hdd] at h2
  clear h hN hdd
  by_cases h16 : N < 16
  · have t1 : (N : Int) < 16 := by omega
    have t1d : decide ((N : Int) < 16) = true := decide_eq_true t1
    rw [if_pos h16]
    go_enter Tryd.func27, Tryd.ntmps27
    go_wp2_with fail
    refine h1.mono ?_
    rintro e w' ⟨rfl, rfl⟩
    go_wp2_with fail
    go_ret
    exact ⟨rfl, rfl⟩
  · have t1 : ¬ (N : Int) < 16 := by omega
    have t1d : decide ((N : Int) < 16) = false := decide_eq_false t1
    rw [if_neg h16]
    go_enter Tryd.func27, Tryd.ntmps27
    go_wp2_with fail
    refine h1.mono ?_
    rintro e w' ⟨rfl, rfl⟩
    go_wp2_with fail
    refine h2.mono ?_
    rintro e w' ⟨rfl, rfl⟩
    cases dd with
    | true =>
      go_wp2_with fail
      go_ret
      exact ⟨rfl, rfl⟩
    | false =>
      go_wp2_with fail
      go_ret
      exact ⟨rfl, rfl⟩
theorem wrote_any (d L : Nat) (s : Dsk) (w : World) (k : Nat) (h : DkAt w d L s) (hf : FOk s k) (hk : k < 1000000) (i : Nat) (hi : i < s.n) (b off c : Nat) (l : List UInt8) (hb : At w b off l) (hl : l.length = 256) (hc : 256 ≤ c ∧ c ≤ maxLen) :
    Calls Tryd.prog 30 #[.pointer (some ⟨d, 0, none⟩), .int .i64 (i : Int), .slice (some ⟨b, off, none⟩) 256 c] w fun e w' =>
      e = .returned (.bool (s.wrote i l).1) ∧ DkAt w' d L (s.wrote i l).2 ∧ Turn [d, L] w w' := by
  have hR := dkread_any d L s w h i hi
  have HH := Lib.hid (And.intro h hb)
  clear h hb
  obtain ⟨rs, hrs⟩ : ∃ rs, s.rd i = rs := ⟨_, rfl⟩
  rw [hrs] at hR
  obtain ⟨q, hq⟩ : ∃ q, s.wrote i l = q := ⟨_, rfl⟩
  rw [hq]
  unfold Dsk.wrote at hq
  rw [hrs] at hq
  have HQ := Lib.hid (And.intro hq hi)
  clear hq hrs hi
  go_enter Tryd.func30, Tryd.ntmps30
  go_wp2_with fail
  refine hR.mono ?_
  rintro e w1 ⟨g1, c1, rfl, hO1, hl1, hb1⟩
  have hE := equalB_any (some ⟨g1, 0, none⟩) 256 c1 (some ⟨b, off, none⟩) 256 c rs l w1 hO1.rd ⟨hl.symm, hc.1, hc.2, .inr ⟨b, off, rfl, HH.out.2.keep hb1.size (hb1.block b HH.out.2.1)⟩⟩
  have H1 := Lib.hid (And.intro (HH.out.1.below hb1) (And.intro (HH.out.2.keep hb1.size (hb1.block b HH.out.2.1)) hb1))
  clear hR hO1 hl1 hb1
  go_wp2_with fail
  refine hE.mono ?_
  rintro e w' ⟨rfl, rfl⟩
  clear hE
  have hq := HQ.out.1
  have hi := HQ.out.2
  by_cases he : rs = l
  · rw [if_pos he] at hq
    subst hq
    rw [decide_eq_true he]
    clear he hi
    go_wp2_with fail
    go_ret
    exact ⟨rfl, H1.out.1, Turn.of_below _ H1.out.2.2⟩
  · rw [if_neg he] at hq
    rw [decide_eq_false he]
    have hW := dkwrite_any d L s w1 k H1.out.1 hf hk i hi b off c l H1.out.2.1 hl
    rw [hq] at hW
    obtain ⟨r1, r2⟩ := q
    clear he hq hi
    go_wp2_with fail
    refine hW.mono ?_
    rintro e w2 ⟨rfl, hD, hT⟩
    have H2 := Lib.hid (And.intro hD ((Turn.of_below [d, L] H1.out.2.2).trans hT (fun x hx => .inl hx)))
    clear hD hT hW
    go_wp2_with fail
    go_ret
    exact ⟨rfl, H2.out.1, H2.out.2⟩
/-- A volume's own cells. -/
def VolB (w : World) (v d B c : Nat) (br : Bool) : Prop := Blk w v 61 #[.pointer (some ⟨d, 0, none⟩), .int .i64 (B : Int), .int .i64 (c : Int), .bool br]
theorem blocks_nil (w : World) : Calls Tryd.prog 18 #[.pointer none] w fun e w' => e = .returned (.int .i64 0) ∧ w = w' := by
  go_enter Tryd.func18, Tryd.ntmps18
  go_wp2
  go_ret
  exact ⟨rfl, rfl⟩
theorem commits_nil (w : World) : Calls Tryd.prog 13 #[.pointer none] w fun e w' => e = .returned (.int .i64 0) ∧ w = w' := by
  go_enter Tryd.func13, Tryd.ntmps13
  go_wp2
  go_ret
  exact ⟨rfl, rfl⟩
theorem VolB.cells {w : World} {v d B c : Nat} {br : Bool} (h : VolB w v d B c br) : w.cell? ⟨v, 0, none⟩ = some (.pointer (some ⟨d, 0, none⟩)) ∧ w.cell? ⟨v, 1, none⟩ = some (.int .i64 (B : Int)) ∧ w.cell? ⟨v, 2, none⟩ = some (.int .i64 (c : Int)) ∧ w.cell? ⟨v, 3, none⟩ = some (.bool br) := by
  unfold VolB at h
  rw [h.cell, h.cell, h.cell, h.cell]; exact ⟨rfl, rfl, rfl, rfl⟩
theorem blocks_any (v d B c : Nat) (br : Bool) (w : World) (h : VolB w v d B c br) : Calls Tryd.prog 18 #[.pointer (some ⟨v, 0, none⟩)] w fun e w' => e = .returned (.int .i64 (B : Int)) ∧ w = w' := by
  obtain ⟨c0, c1, c2, c3⟩ := h.cells
  clear h
  go_enter Tryd.func18, Tryd.ntmps18
  go_wp2
  go_ret
  exact ⟨rfl, rfl⟩
theorem commits_any (v d B c : Nat) (br : Bool) (w : World) (h : VolB w v d B c br) : Calls Tryd.prog 13 #[.pointer (some ⟨v, 0, none⟩)] w fun e w' => e = .returned (.int .i64 (c : Int)) ∧ w = w' := by
  obtain ⟨c0, c1, c2, c3⟩ := h.cells
  clear h
  go_enter Tryd.func13, Tryd.ntmps13
  go_wp2
  go_ret
  exact ⟨rfl, rfl⟩
end Go.Proofs.YtomngfihaohgdaaDoor
