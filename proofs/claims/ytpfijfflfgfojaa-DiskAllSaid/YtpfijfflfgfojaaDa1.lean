/-
  DiskAll's parts: Full of bytes of no room; what each step does to both disks.
-/
import Derived.Test.YtpfijfflfgfojaaSm
import Derived.Test.YtpfijfflfgfojaaAsk
import Derived.Test.YtpfijfflfgfojaaOpenOp
namespace Go.Proofs.Ytpfijfflfgfojaa
open Go.RowKit

/-- What Full gives. -/
def FullRes (w : World) (lb : List UInt8) (e : Ending) (w' : World) : Prop := ∃ g n, e = .returned (.slice (some ⟨g, 0, none⟩) n n) ∧ n = lb.length ∧ At w' g 0 lb ∧ w.heap.size ≤ g ∧ Below w.heap.size w w'
theorem full_res (A : Option Addr) (m c : Nat) (n : Int) (l : List UInt8) (w : World) (h : RdE w A m c l) :
    Calls Try.prog 8 #[.slice A m c, .int .i64 n] w (FullRes w (full l n)) := by
  rcases h with h | ⟨rfl, rfl, rfl⟩
  · refine (full_any A m c n l w h).mono ?_
    rintro e w' ⟨g, rfl, ho, hb⟩
    obtain ⟨A', c', he, _, hge⟩ := ho.shape
    cases he
    exact ⟨g, _, rfl, rfl, ho.at_, hge _ rfl, hb⟩
  · by_cases hn : 0 ≤ n ∧ n ≤ 20000
    · obtain ⟨k, rfl⟩ : ∃ k : Nat, n = k := ⟨n.toNat, by omega⟩
      have hM := Try.prog_make k (by omega)
      have hf : full [] k = zs k := by unfold full; rw [if_neg (by omega), if_pos rfl]; simp
      rw [hf]
      have hki : (k : Int) ≤ 20000 := by omega
      clear hf hn
      go_enter Try.func8, Try.ntmps8
      go_wp2
      refine wp_loop_rounds 1 ?_
      rw [rounds_succ]
      go_wp2
      all_goals
        go_ret
        exact ⟨_, _, rfl, (zs_len k).symm, (Own.made w k (by unfold maxLen; omega)).at_, Nat.le_refl _, (Below.refl _ _).alloc (Nat.le_refl _) _⟩
    · have hl : full [] n = [] := by unfold full; rw [if_pos (by omega)]
      rw [hl]
      have hM := Try.prog_make 0 (by omega)
      rw [show ((0 : Nat) : Int) = 0 from rfl] at hM
      have fin : At (w.alloc (.cells (madeCells #[.int .u8 0] 0) 5)) w.heap.size 0 [] := (Own.made w 0 (by unfold maxLen; omega)).at_
      have fin2 : Below w.heap.size w (w.alloc (.cells (madeCells #[.int .u8 0] 0) 5)) := (Below.refl _ _).alloc (Nat.le_refl _) _
      clear hl
      rcases Int.lt_or_le n 0 with h0 | h0
      · clear hn
        go_enter Try.func8, Try.ntmps8
        go_wp2
        refine wp_loop_rounds 1 ?_
        rw [rounds_succ]
        go_wp2
        go_ret
        exact ⟨_, _, rfl, rfl, fin, Nat.le_refl _, fin2⟩
      · have h5 : 20000 < n := by omega
        clear hn
        go_enter Try.func8, Try.ntmps8
        go_wp2
        refine wp_loop_rounds 1 ?_
        rw [rounds_succ]
        go_wp2
        go_ret
        exact ⟨_, _, rfl, rfl, fin, Nat.le_refl _, fin2⟩
/-- What stands between two steps. -/
structure DaI (w : World) (br k d L : Nat) (xs : List SecV) (s : Dsk) (p : RPl) (r : RDsk) (W : World) : Prop where
  disk : DiskAt W d L xs s
  ref : RefAt W p r
  mat : Match s r
  cnt : s.count ≤ k
  box : Blk W br 26 #[.pointer (some ⟨p.d, 0, none⟩)]
  old : Old w W
  low : w.heap.size ≤ d ∧ w.heap.size ≤ L ∧ w.heap.size ≤ p.d ∧ w.heap.size ≤ p.gS ∧ w.heap.size ≤ p.gN ∧ w.heap.size ≤ p.gW ∧ w.heap.size ≤ br
  lm : s.left ≤ 9223372036854775807 ∧ r.fuse ≤ 9223372036854775807
theorem DaI.below {w : World} {br k d L : Nat} {xs : List SecV} {s : Dsk} {p : RPl} {r : RDsk} {W W' : World} (h : DaI w br k d L xs s p r W) (hb : Old W W') : DaI w br k d L xs s p r W' :=
  ⟨h.disk.below hb, h.ref.below hb, h.mat, h.cnt, h.box.below hb, Old.trans h.old hb, h.low, h.lm⟩
theorem DaI.more {w : World} {br k k' d L : Nat} {xs : List SecV} {s : Dsk} {p : RPl} {r : RDsk} {W : World} (h : DaI w br k d L xs s p r W) (hk : k ≤ k') : DaI w br k' d L xs s p r W :=
  ⟨h.disk, h.ref, h.mat, Nat.le_trans h.cnt hk, h.box, h.old, h.low, h.lm⟩
/-- Behind a call on the program's disk. -/
theorem DaI.mid {w : World} {br k d L : Nat} {xs ys : List SecV} {s s1 : Dsk} {p : RPl} {r : RDsk} {W W1 : World} (h : DaI w br k d L xs s p r W) (_h1 : DiskAt W1 d L ys s1) (t : Turn [d, L] W W1) :
    RefAt W1 p r ∧ Blk W1 br 26 #[.pointer (some ⟨p.d, 0, none⟩)] ∧ Old w W1 := by
  have hd := h.disk.1
  have hL := h.disk.2.1
  have e1 : p.d ≠ d := h.ref.head.ne_ hd (by decide)
  have e2 : p.d ≠ L := h.ref.head.ne_ hL (by decide)
  have e3 : p.gS ≠ d := h.ref.rowS.ne_ hd (by decide)
  have e4 : p.gS ≠ L := h.ref.rowS.ne_ hL (by decide)
  have e5 : p.gN ≠ d := h.ref.rowN.ne_ hd (by decide)
  have e6 : p.gN ≠ L := h.ref.rowN.ne_ hL (by decide)
  have e7 : p.gW ≠ d := h.ref.rowW.ne_ hd (by decide)
  have e8 : p.gW ≠ L := h.ref.rowW.ne_ hL (by decide)
  have e9 : br ≠ d := h.box.ne_ hd (by decide)
  have e10 : br ≠ L := h.box.ne_ hL (by decide)
  refine ⟨h.ref.turn t (by simp [e1, e2]) (by simp [e3, e4]) (by simp [e5, e6]) (by simp [e7, e8]) (fun g hg => ?_), h.box.turn t (by simp [e9, e10]), h.old.turned t (fun x hx => ?_)⟩
  · rcases List.mem_cons.1 hg with rfl | hg
    · exact hd.noRow (by decide)
    · simp at hg; subst hg; exact hL.noRow (by decide)
  · rcases List.mem_cons.1 hx with rfl | hx
    · exact h.low.1
    · simp at hx; subst hx; exact h.low.2.1
/-- Behind a call on the reference's disk. -/
theorem DaI.fin {w : World} {br k d L : Nat} {xs ys : List SecV} {s s1 : Dsk} {p q : RPl} {r r1 : RDsk} {W W1 W2 : World} (h : DaI w br k d L xs s p r W) (h1 : DiskAt W1 d L ys s1) (t : Turn [d, L] W W1)
    (h2 : RefAt W2 q r1) (t2 : Turn [p.d, p.gS, p.gN, p.gW] W1 W2) (hq : q.d = p.d ∧ q.gS = p.gS ∧ q.gN = p.gN ∧ q.gW = p.gW) (hm : Match s1 r1) (hc : s1.count ≤ k + 1) (hl : s1.left ≤ 9223372036854775807 ∧ r1.fuse ≤ 9223372036854775807) :
    DaI w br (k + 1) d L ys s1 q r1 W2 := by
  obtain ⟨hr, hb, ho⟩ := h.mid h1 t
  have hd := h1.1
  have hL := h1.2.1
  have e1 : d ≠ p.d := hd.ne_ hr.head (by decide)
  have e2 : L ≠ p.d := hL.ne_ hr.head (by decide)
  have e3 : d ≠ p.gS := (hr.rowS.ne_ hd (by decide)).symm
  have e4 : L ≠ p.gS := (hr.rowS.ne_ hL (by decide)).symm
  have e5 : d ≠ p.gN := (hr.rowN.ne_ hd (by decide)).symm
  have e6 : L ≠ p.gN := (hr.rowN.ne_ hL (by decide)).symm
  have e7 : d ≠ p.gW := hd.ne_ hr.rowW (by decide)
  have e8 : L ≠ p.gW := hL.ne_ hr.rowW (by decide)
  have b1 : br ≠ p.d := hb.ne_ hr.head (by decide)
  have b2 : br ≠ p.gS := (hr.rowS.ne_ hb (by decide)).symm
  have b3 : br ≠ p.gN := (hr.rowN.ne_ hb (by decide)).symm
  have b4 : br ≠ p.gW := hb.ne_ hr.rowW (by decide)
  obtain ⟨w1, w2, w3, w4, w5, w6, w7⟩ := h.low
  obtain ⟨n1, n2, n3, n4⟩ := hr.noRow
  refine ⟨h1.turn' t2 (by simp [e1, e3, e5, e7]) (by simp [e2, e4, e6, e8]) (fun g hg => ?_), h2, hm, hc, ?_, ho.turned t2 (fun x hx => ?_), ⟨w1, w2, by rw [hq.1]; exact w3, by rw [hq.2.1]; exact w4, by rw [hq.2.2.1]; exact w5, by rw [hq.2.2.2]; exact w6, w7⟩, hl⟩
  · simp at hg
    rcases hg with rfl | rfl | rfl | rfl
    · exact n1
    · exact n2
    · exact n3
    · exact n4
  · rw [hq.1]
    exact hb.turn t2 (by simp [b1, b2, b3, b4])
  · simp at hx
    rcases hx with rfl | rfl | rfl | rfl
    · exact w3
    · exact w4
    · exact w5
    · exact w6
/-! ### the steps, plainly -/
def wOk (s : Dsk) (i : Int) (l : List UInt8) : Bool := !s.dead && decide (0 ≤ i ∧ i < s.secs.length ∧ l.length = 256)
def Dsk.wr (s : Dsk) (i : Int) (l : List UInt8) : Dsk := if wOk s i l then (s.put i.toNat l).done else s
def RDsk.wr (s : Dsk) (r : RDsk) (i : Int) (l : List UInt8) : RDsk := if wOk s i l then (r.put i.toNat l).step else r
theorem match_wr {s : Dsk} {r : RDsk} (h : Match s r) (i : Int) (l : List UInt8) (hw : r.wet.length = r.now.length) : Match (s.wr i l) (RDsk.wr s r i l) := by
  unfold Dsk.wr RDsk.wr
  cases hk : wOk s i l with
  | false => simpa using h
  | true =>
    simp only [if_true]
    unfold wOk at hk
    simp at hk
    exact match_done (match_put h i.toNat l hw) hk.1
def Dsk.sy (s : Dsk) : Dsk := if s.dead then s else Dsk.done { s with secs := s.secs.map Sec.sync }
def RDsk.sy (s : Dsk) (r : RDsk) : RDsk := if s.dead then r else r.sync.step
theorem match_sy {s : Dsk} {r : RDsk} (h : Match s r) : Match s.sy (RDsk.sy s r) := by
  unfold Dsk.sy RDsk.sy
  by_cases hd : s.dead = true
  · rw [if_pos hd, if_pos hd]; exact h
  · rw [if_neg hd, if_neg hd]; exact match_done (match_sync h) (by simpa using hd)
theorem done_cnt (s : Dsk) : s.done.count = s.count + 1 ∧ s.done.left ≤ max s.left (s.left - 1) := by
  unfold Dsk.done
  split
  · exact ⟨rfl, by simp only; omega⟩
  · exact ⟨rfl, by simp only; omega⟩
theorem step_fuse (r : RDsk) : r.step.fuse ≤ r.fuse := by
  unfold RDsk.step
  simp only
  split <;> omega
/-! ### the calls -/
theorem left_ok {s : Dsk} {r : RDsk} (hm : Match s r) (hd : s.dead = false) (hl : s.left ≤ 9223372036854775807) : s.fused = true → 1 ≤ s.left ∧ s.left ≤ 9223372036854775807 := fun hf => ⟨(hm.left hf hd).1, hl⟩
theorem write_all (d L : Nat) (xs : List SecV) (s : Dsk) (r : RDsk) (i : Int) (g n : Nat) (lb : List UInt8) (W : World) (h : DiskAt W d L xs s) (hm : Match s r) (hc : s.count < 1000000) (hl : s.left ≤ 9223372036854775807) (hn : n = lb.length) (hb : At W g 0 lb) :
    Calls Try.prog 9 #[.pointer (some ⟨d, 0, none⟩), .int .i64 i, .slice (some ⟨g, 0, none⟩) n n] W fun e w' => e = .returned (.bool (wOk s i lb)) ∧ (∃ ys, DiskAt w' d L ys (s.wr i lb)) ∧ Turn [d, L] W w' := by
  unfold Dsk.wr
  cases hk : wOk s i lb with
  | true =>
    unfold wOk at hk
    simp at hk
    obtain ⟨hd, h0, h1, h2⟩ := hk
    obtain ⟨k, rfl⟩ := Int.eq_ofNat_of_zero_le h0
    have hn2 : n = 256 := by omega
    subst hn2
    simp only [if_true, Int.toNat_natCast]
    exact write_in d L xs s W h hd k (by omega) g 0 256 lb hb h2 hc (left_ok hm hd hl)
  | false =>
    have hno : s.dead = true ∨ i < 0 ∨ (s.secs.length : Int) ≤ i ∨ n ≠ 256 := by
      unfold wOk at hk
      cases hd : s.dead with
      | true => exact .inl rfl
      | false =>
        rw [hd] at hk
        simp at hk
        by_cases h0 : 0 ≤ i
        · by_cases h1 : i < s.secs.length
          · have := hk h0 h1; exact .inr (.inr (.inr (by omega)))
          · exact .inr (.inr (.inl (by omega)))
        · exact .inr (.inl (by omega))
    simp only [Bool.false_eq_true, if_false]
    refine (write_no d L xs s i _ n n W h hno).mono ?_
    rintro e w' ⟨rfl, rfl⟩
    exact ⟨rfl, ⟨xs, h⟩, Turn.refl _ _⟩
theorem rwrite_all (p : RPl) (s : Dsk) (r : RDsk) (i : Int) (g n : Nat) (lb : List UInt8) (W : World) (h : RefAt W p r) (hm : Match s r) (hc : s.count < 1000000) (hl : r.fuse ≤ 9223372036854775807) (hn : n = lb.length) (hb : At W g 0 lb) :
    Calls Try.prog 10 #[.pointer (some ⟨p.d, 0, none⟩), .int .i64 i, .slice (some ⟨g, 0, none⟩) n n] W fun e w' => e = .returned (.bool (wOk s i lb)) ∧ (∃ q : RPl, (q.d = p.d ∧ q.gS = p.gS ∧ q.gN = p.gN ∧ q.gW = p.gW) ∧ RefAt w' q (RDsk.wr s r i lb)) ∧ Turn [p.d, p.gS, p.gN, p.gW] W w' := by
  unfold RDsk.wr
  have e1 := hm.len
  have e2 := hm.dead
  have e3 := hm.count
  cases hk : wOk s i lb with
  | true =>
    unfold wOk at hk
    simp at hk
    obtain ⟨hd, h0, h1, h2⟩ := hk
    obtain ⟨k, rfl⟩ := Int.eq_ofNat_of_zero_le h0
    have hn2 : n = 256 := by omega
    subst hn2
    simp only [if_true, Int.toNat_natCast]
    refine (rwrite_in p r W h (by rw [← e2]; exact hd) k (by omega) g 0 256 lb hb h2 (by omega) hl).mono ?_
    rintro e w' ⟨he, ⟨q, a1, a2, a3, a4, hq⟩, ht⟩
    exact ⟨he, ⟨q, ⟨a1, a2, a3, a4⟩, hq⟩, ht⟩
  | false =>
    have hno : r.dead = true ∨ i < 0 ∨ (r.now.length : Int) ≤ i ∨ n ≠ 256 := by
      unfold wOk at hk
      cases hd : s.dead with
      | true => exact .inl (by rw [← e2]; exact hd)
      | false =>
        rw [hd] at hk
        simp at hk
        by_cases h0 : 0 ≤ i
        · by_cases h1 : i < s.secs.length
          · have := hk h0 h1; exact .inr (.inr (.inr (by omega)))
          · exact .inr (.inr (.inl (by omega)))
        · exact .inr (.inl (by omega))
    simp only [Bool.false_eq_true, if_false]
    refine (rwrite_no p r i _ n n W h hno).mono ?_
    rintro e w' ⟨rfl, rfl⟩
    exact ⟨rfl, ⟨p, ⟨rfl, rfl, rfl, rfl⟩, h⟩, Turn.refl _ _⟩
theorem sync_all (d L : Nat) (xs : List SecV) (s : Dsk) (r : RDsk) (W : World) (h : DiskAt W d L xs s) (hm : Match s r) (hc : s.count < 1000000) (hl : s.left ≤ 9223372036854775807) :
    Calls Try.prog 11 #[.pointer (some ⟨d, 0, none⟩)] W fun e w' => e = .returned (.bool (!s.dead)) ∧ (∃ ys, DiskAt w' d L ys s.sy) ∧ Turn [d, L] W w' := by
  unfold Dsk.sy
  by_cases hd : s.dead = true
  · rw [if_pos hd]
    refine (sync_dead d L xs s W h hd).mono ?_
    rintro e w' ⟨rfl, rfl⟩
    exact ⟨by rw [hd]; rfl, ⟨xs, h⟩, Turn.refl _ _⟩
  · have hd' : s.dead = false := by simpa using hd
    rw [if_neg hd]
    refine (sync_any d L xs s W h hd' hc (left_ok hm hd' hl)).mono ?_
    rintro e w' ⟨rfl, h1, h2⟩
    exact ⟨by rw [hd']; rfl, h1, h2⟩
theorem rsync_all (p : RPl) (s : Dsk) (r : RDsk) (W : World) (h : RefAt W p r) (hm : Match s r) (hc : s.count < 1000000) (hl : r.fuse ≤ 9223372036854775807) :
    Calls Try.prog 12 #[.pointer (some ⟨p.d, 0, none⟩)] W fun e w' => e = .returned (.bool (!s.dead)) ∧ (∃ q : RPl, (q.d = p.d ∧ q.gS = p.gS ∧ q.gN = p.gN ∧ q.gW = p.gW) ∧ RefAt w' q (RDsk.sy s r)) ∧ Turn [p.d, p.gS, p.gN, p.gW] W w' := by
  unfold RDsk.sy
  have e2 := hm.dead
  have e3 := hm.count
  by_cases hd : s.dead = true
  · rw [if_pos hd]
    refine (rsync_dead p r W h (by rw [← e2]; exact hd)).mono ?_
    rintro e w' ⟨rfl, rfl⟩
    exact ⟨by rw [hd]; rfl, ⟨p, ⟨rfl, rfl, rfl, rfl⟩, h⟩, Turn.refl _ _⟩
  · have hd' : s.dead = false := by simpa using hd
    rw [if_neg hd]
    refine (rsync_any p r W h (by rw [← e2]; exact hd') (by omega) hl).mono ?_
    rintro e w' ⟨rfl, ⟨q, a1, a2, a3, a4, hq⟩, ht⟩
    exact ⟨by rw [hd']; rfl, ⟨q, ⟨a1, a2, a3, a4⟩, hq⟩, ht⟩
/-! ### bounds -/
theorem wr_cnt (s : Dsk) (r : RDsk) (i : Int) (l : List UInt8) (k : Nat) (h : s.count ≤ k) (hl : s.left ≤ 9223372036854775807 ∧ r.fuse ≤ 9223372036854775807) : (s.wr i l).count ≤ k + 1 ∧ (s.wr i l).left ≤ 9223372036854775807 ∧ (RDsk.wr s r i l).fuse ≤ 9223372036854775807 := by
  unfold Dsk.wr RDsk.wr
  split
  · have h1 := done_cnt (s.put i.toNat l)
    have h2 := step_fuse (r.put i.toNat l)
    have e1 : (s.put i.toNat l).count = s.count := rfl
    have e2 : (s.put i.toNat l).left = s.left := rfl
    have e3 : (r.put i.toNat l).fuse = r.fuse := rfl
    rw [e1, e2] at h1
    rw [e3] at h2
    omega
  · omega
theorem sy_cnt (s : Dsk) (r : RDsk) (k : Nat) (h : s.count ≤ k) (hl : s.left ≤ 9223372036854775807 ∧ r.fuse ≤ 9223372036854775807) : s.sy.count ≤ k + 1 ∧ s.sy.left ≤ 9223372036854775807 ∧ (RDsk.sy s r).fuse ≤ 9223372036854775807 := by
  unfold Dsk.sy RDsk.sy
  split
  · omega
  · have h1 := done_cnt { s with secs := s.secs.map Sec.sync }
    have h2 := step_fuse r.sync
    have e3 : r.sync.fuse = r.fuse := rfl
    simp only at h1
    rw [e3] at h2
    omega
theorem fuse_cnt (s : Dsk) (r : RDsk) (n : Int) (k : Nat) (h : s.count ≤ k) (hn : n ≤ 9223372036854775807) (hl : s.left ≤ 9223372036854775807 ∧ r.fuse ≤ 9223372036854775807) : (s.fuse n).count ≤ k + 1 ∧ (s.fuse n).left ≤ 9223372036854775807 ∧ (r.setFuse n).fuse ≤ 9223372036854775807 := by
  unfold Dsk.fuse RDsk.setFuse
  split <;> split <;> (try split) <;> (try simp only) <;> omega
end Go.Proofs.Ytpfijfflfgfojaa
