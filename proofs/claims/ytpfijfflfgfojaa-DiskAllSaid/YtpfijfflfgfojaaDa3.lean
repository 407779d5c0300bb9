/-
  The law DiskAll, walked where there are disks.
-/
import Derived.Test.YtpfijfflfgfojaaDa2
namespace Go.Proofs.Ytpfijfflfgfojaa
open Go.RowKit

theorem OpV.blk_cells {W : World} {bo : Nat} {o : OpV} (h : Blk W bo 31 o.cells) : W.cell? ⟨bo, 0, none⟩ = some (.int .i64 o.kind) ∧ W.cell? ⟨bo, 1, none⟩ = some (.int .i64 o.i) ∧ W.cell? ⟨bo, 2, none⟩ = some (.int .i64 o.n) ∧ W.cell? ⟨bo, 3, none⟩ = some (.slice o.A o.m o.c) ∧ W.cell? ⟨bo, 4, none⟩ = some (.slice o.kA o.kl.length o.kc) :=
  ⟨h.cell 0, h.cell 1, h.cell 2, h.cell 3, h.cell 4⟩
theorem DaI.opTurn {w : World} {br k d L : Nat} {xs : List SecV} {s : Dsk} {p : RPl} {r : RDsk} {W W1 : World} (h : DaI w br k d L xs s p r W) {bo : Nat} {cs : Array Value} (hb : Blk W bo 31 cs) (t : Turn [d, L] W W1) : Blk W1 bo 31 cs :=
  hb.turn t (by simp; exact ⟨hb.ne_ h.disk.1 (by decide), hb.ne_ h.disk.2.1 (by decide)⟩)
theorem RefAt.opTurn {p : RPl} {r : RDsk} {W W1 : World} (h : RefAt W p r) {bo : Nat} {cs : Array Value} (hb : Blk W bo 31 cs) (t : Turn [p.d, p.gS, p.gN, p.gW] W W1) : Blk W1 bo 31 cs :=
  hb.turn t (by simp; exact ⟨hb.ne_ h.head (by decide), (h.rowS.ne_ hb (by decide)).symm, (h.rowN.ne_ hb (by decide)).symm, hb.ne_ h.rowW (by decide)⟩)
theorem At.fresh {w w' : World} {g : Nat} {l : List UInt8} {S : List Nat} (h : At w g 0 l) (t : Turn S w w') (hg : g ∉ S) : At w' g 0 l := h.keep t.size (t.block g h.1 hg)
theorem crash_all {w : World} {br k d L : Nat} {xs : List SecV} {s : Dsk} {p : RPl} {r : RDsk} {W : World} (h : DaI w br k d L xs s p r W) {bo : Nat} {o : OpV} (ho : Blk W bo 31 o.cells) (hk : RdB W o.kA o.kl.length o.kl) :
    Calls Try.prog 15 #[.pointer (some ⟨d, 0, none⟩), .func (.func 16) #[] #[.pointer (some ⟨W.heap.size + 1, 0, none⟩), .pointer (some ⟨W.heap.size, 0, none⟩), .pointer (some ⟨br, 0, none⟩), .pointer (some ⟨bo, 0, none⟩)]]
      ((W.alloc (.cells #[.int .i64 (-1)] 3)).alloc (.cells #[.bool true] 4)) fun e w' =>
      e = .returned (.pointer (some ⟨W.heap.size + 3, 0, none⟩)) ∧ (∃ ys, DiskAt w' (W.heap.size + 3) (W.heap.size + 2) ys (crashTo s (fun i => o.kl.getD i false) s.secs.length)) ∧ RefAt w' p r ∧ Blk w' br 26 #[.pointer (some ⟨p.d, 0, none⟩)] ∧ Blk w' bo 31 o.cells ∧ RdB w' o.kA o.kl.length o.kl ∧ Blk w' (W.heap.size + 1) 4 #[.bool true] ∧ Old w w' := by
  have s1 : (W.alloc (.cells #[.int .i64 (-1)] 3)).heap.size = W.heap.size + 1 := by simp
  have hal1 : Old W (W.alloc (.cells #[.int .i64 (-1)] 3)) := (Below.refl _ _).alloc (Nat.le_refl _) _
  have hA1 : Blk (W.alloc (.cells #[.int .i64 (-1)] 3)) W.heap.size 3 #[.int .i64 (-1)] := Blk.new _ _ _
  generalize W.alloc (.cells #[.int .i64 (-1)] 3) = V at *
  have s2 : (V.alloc (.cells #[.bool true] 4)).heap.size = W.heap.size + 2 := by
    have z : (V.alloc (.cells #[.bool true] 4)).heap.size = V.heap.size + 1 := by simp
    omega
  have hal2 : Old V (V.alloc (.cells #[.bool true] 4)) := (Below.refl _ _).alloc (Nat.le_refl _) _
  have hF := Blk.new V 4 #[.bool true]
  rw [s1] at hF
  have hA := hA1.below hal2
  generalize V.alloc (.cells #[.bool true] 4) = U at *
  have hal : Old W U := Old.trans hal1 hal2
  have hd := h.below hal
  have ld := h.disk.1.lt
  have lL := h.disk.2.1.lt
  have lp := h.ref.head.lt
  have lS := h.ref.rowS.lt
  have lN := h.ref.rowN.lt
  have lW := h.ref.rowW.lt
  have lb := h.box.lt
  have lo := ho.lt
  have hJ : AskI (W.heap.size + 1) W.heap.size br bo o.cells p r s.secs.length o.kA o.kl U.heap.size 0 U := by
    refine ⟨hF, ⟨-1, by omega, by omega, hA⟩, hd.box, ho.below hal, ?_, hd.ref.rowW, ?_, by omega⟩
    · exact ⟨_, hd.ref.head, by rw [h.mat.len]; simp [h.ref.lenW]⟩
    · rcases (hk.below hal).2 with h0 | ⟨b, off, e1, e2, e3⟩
      · exact .inl (List.length_eq_zero_iff.1 h0)
      · rcases hk.2 with h0 | ⟨b', off', e1', e2', e3'⟩
        · exact .inl (List.length_eq_zero_iff.1 h0)
        · rw [e1] at e1'
          cases e1'
          exact .inr ⟨b, off, e1, e2, by omega, by omega, e3⟩
  have hq := asksAll (W.heap.size + 1) W.heap.size br bo o.cells p r o.kA o.kc o.kl U.heap.size s h.mat h.ref.lenW h.disk.2.2.2.2 rfl
  have hz := h.old.size
  refine (crash_any d L _ _ xs s (fun i => o.kl.getD i false) [W.heap.size + 1, W.heap.size] _ U hd.disk hq hJ (by simp; omega) (by simp; omega) (by intro g hg; simp at hg; rcases hg with rfl | rfl <;> omega)).mono ?_
  rintro e w' ⟨rfl, hD, hJ', hT⟩
  rw [s2] at hD ⊢
  refine ⟨rfl, hD, hd.ref.turn hT (by simp; omega) (by simp; omega) (by simp; omega) (by simp; omega) (fun g hg => ?_), hJ'.box, hJ'.op, ⟨rfl, ?_⟩, hJ'.fine, hd.old.turned hT (fun x hx => ?_)⟩
  · simp at hg
    rcases hg with rfl | rfl
    · exact hF.noRow (by decide)
    · exact hA.noRow (by decide)
  · rcases hJ'.keep with h0 | ⟨b, off, e1, e2, _, _, e3⟩
    · exact .inl (by simp [h0])
    · exact .inr ⟨b, off, e1, Nat.lt_of_lt_of_le e2 hT.size, e3⟩
  · simp at hx
    rcases hx with rfl | rfl <;> omega
theorem crash_fin {w : World} {br k d L d' L' f bo : Nat} {xs ys : List SecV} {s s' : Dsk} {p q : RPl} {r r' : RDsk} {W w6 w7 : World} {cs : Array Value} (h : DaI w br k d L xs s p r W) (hD : DiskAt w6 d' L' ys s') (hlo : w.heap.size ≤ d' ∧ w.heap.size ≤ L')
    (hB : Blk w6 br 26 #[.pointer (some ⟨p.d, 0, none⟩)]) (ho : Blk w6 bo 31 cs) (hf : Blk w6 f 4 #[.bool true]) (hO : Old w w6)
    (hqd : q.d = w6.heap.size + 1) (hqS : w6.heap.size ≤ q.gS) (hqN : w6.heap.size ≤ q.gN) (hqW : q.gW = w6.heap.size) (hR : RefAt w7 q r') (hb : Below w6.heap.size w6 w7) (hm : Match s' r') (hc : s'.count ≤ k + 1) (hl : s'.left ≤ 9223372036854775807 ∧ r'.fuse ≤ 9223372036854775807) :
    DaI w br (k + 1) d' L' ys s' q r' (w7.setCell ⟨br, 0, none⟩ (.pointer (some ⟨w6.heap.size + 1, 0, none⟩))) ∧ Blk (w7.setCell ⟨br, 0, none⟩ (.pointer (some ⟨w6.heap.size + 1, 0, none⟩))) bo 31 cs ∧ (w7.setCell ⟨br, 0, none⟩ (.pointer (some ⟨w6.heap.size + 1, 0, none⟩))).cell? ⟨f, 0, none⟩ = some (.bool true) := by
  have hT : Turn [br] w7 (w7.setCell ⟨br, 0, none⟩ (.pointer (some ⟨w6.heap.size + 1, 0, none⟩))) := (Turn.refl _ _).setCell (.inl (by simp)) _
  have hB7 := hB.below hb
  have hD7 := hD.below hb
  have ho7 := ho.below hb
  have hf7 := hf.below hb
  have lb := hB.lt
  have hz := hO.size
  obtain ⟨l1, l2, l3, l4, l5, l6, l7⟩ := h.low
  have n1 : f ≠ br := hf7.ne_ hB7 (by decide)
  have n2 : bo ≠ br := ho7.ne_ hB7 (by decide)
  have n3 : d' ≠ br := hD7.1.ne_ hB7 (by decide)
  have n4 : L' ≠ br := hD7.2.1.ne_ hB7 (by decide)
  have hbx := hB7.set_ 0 (.pointer (some ⟨w6.heap.size + 1, 0, none⟩))
  refine ⟨⟨hD7.turn' hT (by simp [n3]) (by simp [n4]) (fun g hg => ?_), hR.turn hT (by simp; omega) (by simp; omega) (by simp; omega) (by simp; omega) (fun g hg => ?_), hm, hc, by rw [hqd]; exact hbx, (Old.trans hO hb).turned hT (fun x hx => ?_), by omega, hl⟩, ho7.turn hT (by simp [n2]), ?_⟩
  · simp at hg; subst hg; exact hB7.noRow (by decide)
  · simp at hg; subst hg; exact hB7.noRow (by decide)
  · simp at hx; subst hx; exact l7
  · rw [cell_far _ 0 0 _ n1]
    have := hf7.cell 0
    simpa using this
set_option maxRecDepth 100000 in
set_option maxHeartbeats 8000000 in
theorem diskAll_in (n : Int) (N : Nat) (A : Option Addr) (m c : Nat) (os : List OpV) (w : World) (hO : OpsAt w A m os) (hn : (40 < n ∧ n ≤ 65536 ∧ n % 41 = N) ∨ (n ≤ 40 ∧ n = N)) (h1N : 1 ≤ N) (hN : N ≤ 40) (hmx : m ≤ maxLen) :
    Calls Try.prog 3 #[.int .i64 n, .slice A m c] w (LawRes w) := by
  have q1 := nePtrD
  have q2 := nePtrR
  have q3 := neqPtrD
  have HO := Lib.hid hO
  have hmi : (m : Int) ≤ 9223372036854775807 := by unfold maxLen at hmx; omega
  have HN := Lib.hid (And.intro (fun w => new_in N h1N (by omega) w) (fun w => rnew_in N h1N (by omega) w))
  clear hO hmx
  rcases hn with ⟨h1, h2, h3⟩ | ⟨h1, rfl⟩
  all_goals
    go_enter Try.func3, Try.ntmps3
    go_wp2_with (go_at_call 5; refine (begun_any _).mono ?_; rintro e wx ⟨rfl, hbx⟩; have HB := Lib.hid hbx; clear hbx)
    refine (HN.out.1 _).mono ?_
    rintro e w1 ⟨rfl, hD1, hb1⟩
    have X1 := Lib.hid (And.intro hD1 hb1)
    clear hD1 hb1
    go_wp2_with fail
    refine (HN.out.2 _).mono ?_
    rintro e w2 ⟨rfl, ⟨q, hq1, hq2, hq3, hq4, hR2⟩, hb2⟩
    have hI0 : DaI w w2.heap.size 0 (wx.heap.size + 1) wx.heap.size (List.replicate N (.slice none 0 0, .slice none 0 0, false)) (Dsk.new N) q (RDsk.new N) (w2.alloc (.cells #[.pointer (some ⟨w1.heap.size + 1, 0, none⟩)] 26)) := by
      have s0 := HB.out.size
      have s1 := X1.out.2.size
      have s2 := hb2.size
      have hal : Old w2 (w2.alloc (.cells #[.pointer (some ⟨w1.heap.size + 1, 0, none⟩)] 26)) := (Below.refl _ _).alloc (Nat.le_refl _) _
      refine ⟨(X1.out.1.below hb2).below hal, hR2.below hal, match_new N, Nat.le_refl _, by rw [hq1]; exact Blk.new _ _ _, Old.trans (Old.trans (Old.trans HB.out X1.out.2) hb2) hal, by omega, by simp [Dsk.new, RDsk.new]⟩
    have H0 := Lib.hid hI0
    clear hI0 hq1 hq2 hq3 hq4 hR2 hb2
    go_wp2_with fail
    have hI0 := H0.out
    generalize w2.heap.size = br at *
    clear H0
    go_loopw [6, 8] (fun dv kv wr => ∃ (k d L : Nat) (xs : List SecV) (s : Dsk) (p : RPl) (r : RDsk), k ≤ m ∧ k ≤ 40 ∧ kv = .int .i64 (k : Nat) ∧ dv = .pointer (some ⟨d, 0, none⟩) ∧ DaI w br k d L xs s p r wr) (fun _ kv _ => 40 - (intOf kv).toNat)
    case atStart => exact ⟨0, _, _, _, _, _, _, by omega, by omega, rfl, rfl, hI0⟩
    case round =>
      clear hI0
      obtain ⟨k, d, L, xs, s, p, r, hk1, hk2, rfl, rfl, hI⟩ := hrel
      have HI := Lib.hid hI
      clear hI
      have hki : (k : Int) ≤ 40 := by omega
      have hk0 : (0 : Int) ≤ k := by omega
      by_cases hlt : k < m ∧ k < 40
      · obtain ⟨hl1, hl2⟩ := hlt
        have hi1 : (k : Int) < m := by omega
        have hi2 : (k : Int) < 40 := by omega
        obtain ⟨hol, hz0 | ⟨b, off, rfl, hbl, hrow⟩⟩ := HO.out
        · omega
        obtain ⟨o, ho⟩ : ∃ o, os[k]? = some o := ⟨_, List.getElem?_eq_getElem (by omega)⟩
        have hop := (hrow k o ho).old hbl HI.out.old
        obtain ⟨kind, i, n', oA, om, oc, ol, kA, kc, kl, wi, wn, wk⟩ := o
        obtain ⟨c0, c1, c2, c3, c4, hrd, hkp⟩ := hop
        simp only at c0 c1 c2 c3 c4 hrd hkp wi wn wk
        have hal : Old wr (wr.alloc (.cells (OpV.cells ⟨kind, i, n', oA, om, oc, ol, kA, kc, kl, wi, wn, wk⟩) 31)) := (Below.refl _ _).alloc (Nat.le_refl _) _
        have HP := Lib.hid (And.intro (hrd.below hal) (And.intro (hkp.below hal) (And.intro (HI.out.below hal) (Blk.new wr 31 (OpV.cells ⟨kind, i, n', oA, om, oc, ol, kA, kc, kl, wi, wn, wk⟩)))))
        have HC := Lib.hid (And.intro hl1 hl2)
        clear hrow ho hrd hkp hal hl1 hl2 hol
        go_wp2_with fail
        refine (full_res oA om oc n' ol _ HP.out.1).mono ?_
        rintro en w4 ⟨g, nb, rfl, hnb, hat, hgf, hb4⟩
        generalize full ol n' = lb at *
        have HQ := Lib.hid (And.intro (HP.out.1.below hb4) (And.intro (HP.out.2.1.below hb4) (And.intro (HP.out.2.2.1.below hb4) (HP.out.2.2.2.below hb4))))
        have HL := Lib.hid (And.intro hnb (And.intro hat (And.intro (Nat.lt_of_lt_of_le HP.out.2.2.1.disk.1.lt hgf) (Nat.lt_of_lt_of_le HP.out.2.2.1.disk.2.1.lt hgf))))
        clear hnb hat hgf hb4 HP c0 c1 c2 c3 c4
        generalize wr.heap.size = bo at *
        obtain ⟨e0, e1, e2, e3, e4⟩ := OpV.blk_cells HQ.out.2.2.2
        simp only at e0 e1 e2 e3 e4
        have e5 := HQ.out.2.2.1.box.cell 0
        simp only [List.getElem?_toArray, List.getElem?_cons_zero] at e5
        have hkd : kind = 0 ∨ kind = 1 ∨ kind = 2 ∨ (kind ≠ 0 ∧ kind ≠ 1 ∧ kind ≠ 2) := by omega
        have HKs := Lib.hid (And.intro wi (And.intro wn wk))
        rcases hkd with rfl | rfl | rfl | ⟨kn0, kn1, kn2⟩
        · have hnn : n' < 0 ∨ (0 ≤ n' ∧ 300 < n') ∨ (0 ≤ n' ∧ n' ≤ 300) := by omega
          rcases hnn with z1 | ⟨z1, z2⟩ | ⟨z1, z2⟩
          rotate_right
          · go_wp2_with fail
            refine (write_all d L xs s r i g nb lb w4 HQ.out.2.2.1.disk HQ.out.2.2.1.mat (by have := HQ.out.2.2.1.cnt; omega) HQ.out.2.2.1.lm.1 HL.out.1 HL.out.2.1).mono ?_
            rintro en w6 ⟨rfl, ⟨ys, hD6⟩, hT6⟩
            obtain ⟨hR6, hB6, hO6⟩ := HQ.out.2.2.1.mid hD6 hT6
            have hop6 := HQ.out.2.2.1.opTurn HQ.out.2.2.2 hT6
            have hat6 := At.fresh HL.out.2.1 hT6 (by have := HL.out.2.2.1; have := HL.out.2.2.2; simp; omega)
            have H6 := Lib.hid (And.intro hD6 (And.intro hT6 (And.intro hR6 (And.intro hop6 hat6))))
            clear e0 e1 e2 e3 e4 e5
            obtain ⟨e0, e1, e2, e3, e4⟩ := OpV.blk_cells hop6
            simp only at e0 e1 e2 e3 e4
            have e5 := hB6.cell 0
            simp only [List.getElem?_toArray, List.getElem?_cons_zero] at e5
            clear hD6 hT6 hR6 hB6 hO6 hop6 hat6
            go_wp2_with fail
            refine (rwrite_all p s r i g nb lb w6 H6.out.2.2.1 HQ.out.2.2.1.mat (by have := HQ.out.2.2.1.cnt; omega) HQ.out.2.2.1.lm.2 HL.out.1 H6.out.2.2.2.2).mono ?_
            rintro en w7 ⟨rfl, ⟨q, hq, hR7⟩, hT7⟩
            have hwc := wr_cnt s r i lb k HQ.out.2.2.1.cnt HQ.out.2.2.1.lm
            have H7 := Lib.hid (And.intro (HQ.out.2.2.1.fin H6.out.1 H6.out.2.1 hR7 hT7 hq (match_wr HQ.out.2.2.1.mat i lb HQ.out.2.2.1.ref.lenW) hwc.1 hwc.2) (H6.out.2.2.1.opTurn H6.out.2.2.2.1 hT7))
            clear hq hR7 hT7 hwc e0 e1 e2 e3 e4 e5 H6
            generalize wOk s i lb = bb
            obtain ⟨f0, f1, f2, f3, f4⟩ := OpV.blk_cells H7.out.2
            simp only at f0 f1 f2 f3 f4
            have f5 := H7.out.1.box.cell 0
            simp only [List.getElem?_toArray, List.getElem?_cons_zero] at f5
            go_wp2_with fail
            refine (same_any _ _ _ _ _ _ i w7 H7.out.1.disk H7.out.1.ref H7.out.1.mat).mono ?_
            rintro en w9 ⟨rfl, hb9⟩
            have X9 := Lib.hid (H7.out.1.below hb9)
            clear hb9 f0 f1 f2 f3 f4 f5
            go_wp2_with fail
            go_roundw
            case rel => exact ⟨k + 1, _, _, _, _, _, _, HC.out.1, HC.out.2, by go_num, rfl, X9.out⟩
            case measure => have := HC.out.2; simp [intOf]; omega
          all_goals
            go_wp2_with fail
            refine (full_res oA om oc 256 ol _ HQ.out.1).mono ?_
            rintro en w5 ⟨g2, nb2, rfl, hnb2, hat2, hgf2, hb52⟩
            generalize full ol 256 = lb2 at *
            have HQ5 := Lib.hid (And.intro (HQ.out.1.below hb52) (And.intro (HQ.out.2.1.below hb52) (And.intro (HQ.out.2.2.1.below hb52) (HQ.out.2.2.2.below hb52))))
            have HL5 := Lib.hid (And.intro hnb2 (And.intro hat2 (And.intro (Nat.lt_of_lt_of_le HQ.out.2.2.1.disk.1.lt hgf2) (Nat.lt_of_lt_of_le HQ.out.2.2.1.disk.2.1.lt hgf2))))
            clear hnb2 hat2 hgf2 hb52 e0 e1 e2 e3 e4 e5
            obtain ⟨e0, e1, e2, e3, e4⟩ := OpV.blk_cells HQ5.out.2.2.2
            simp only at e0 e1 e2 e3 e4
            have e5 := HQ5.out.2.2.1.box.cell 0
            simp only [List.getElem?_toArray, List.getElem?_cons_zero] at e5
            go_wp2_with fail
            refine (write_all d L xs s r i g2 nb2 lb2 w5 HQ5.out.2.2.1.disk HQ5.out.2.2.1.mat (by have := HQ5.out.2.2.1.cnt; omega) HQ5.out.2.2.1.lm.1 HL5.out.1 HL5.out.2.1).mono ?_
            rintro en w6 ⟨rfl, ⟨ys, hD6⟩, hT6⟩
            obtain ⟨hR6, hB6, hO6⟩ := HQ5.out.2.2.1.mid hD6 hT6
            have hop6 := HQ5.out.2.2.1.opTurn HQ5.out.2.2.2 hT6
            have hat6 := At.fresh HL5.out.2.1 hT6 (by have := HL5.out.2.2.1; have := HL5.out.2.2.2; simp; omega)
            have H6 := Lib.hid (And.intro hD6 (And.intro hT6 (And.intro hR6 (And.intro hop6 hat6))))
            clear e0 e1 e2 e3 e4 e5
            obtain ⟨e0, e1, e2, e3, e4⟩ := OpV.blk_cells hop6
            simp only at e0 e1 e2 e3 e4
            have e5 := hB6.cell 0
            simp only [List.getElem?_toArray, List.getElem?_cons_zero] at e5
            clear hD6 hT6 hR6 hB6 hO6 hop6 hat6
            go_wp2_with fail
            refine (rwrite_all p s r i g2 nb2 lb2 w6 H6.out.2.2.1 HQ5.out.2.2.1.mat (by have := HQ5.out.2.2.1.cnt; omega) HQ5.out.2.2.1.lm.2 HL5.out.1 H6.out.2.2.2.2).mono ?_
            rintro en w7 ⟨rfl, ⟨q, hq, hR7⟩, hT7⟩
            have hwc := wr_cnt s r i lb2 k HQ5.out.2.2.1.cnt HQ5.out.2.2.1.lm
            have H7 := Lib.hid (And.intro (HQ5.out.2.2.1.fin H6.out.1 H6.out.2.1 hR7 hT7 hq (match_wr HQ5.out.2.2.1.mat i lb2 HQ5.out.2.2.1.ref.lenW) hwc.1 hwc.2) (H6.out.2.2.1.opTurn H6.out.2.2.2.1 hT7))
            clear hq hR7 hT7 hwc e0 e1 e2 e3 e4 e5 H6
            generalize wOk s i lb2 = bb
            obtain ⟨f0, f1, f2, f3, f4⟩ := OpV.blk_cells H7.out.2
            simp only at f0 f1 f2 f3 f4
            have f5 := H7.out.1.box.cell 0
            simp only [List.getElem?_toArray, List.getElem?_cons_zero] at f5
            go_wp2_with fail
            refine (same_any _ _ _ _ _ _ i w7 H7.out.1.disk H7.out.1.ref H7.out.1.mat).mono ?_
            rintro en w9 ⟨rfl, hb9⟩
            have X9 := Lib.hid (H7.out.1.below hb9)
            clear hb9 f0 f1 f2 f3 f4 f5
            go_wp2_with fail
            go_roundw
            case rel => exact ⟨k + 1, _, _, _, _, _, _, HC.out.1, HC.out.2, by go_num, rfl, X9.out⟩
            case measure => have := HC.out.2; simp [intOf]; omega
        · go_wp2_with fail
          refine (sync_all d L xs s r w4 HQ.out.2.2.1.disk HQ.out.2.2.1.mat (by have := HQ.out.2.2.1.cnt; omega) HQ.out.2.2.1.lm.1).mono ?_
          rintro en w6 ⟨rfl, ⟨ys, hD6⟩, hT6⟩
          obtain ⟨hR6, hB6, hO6⟩ := HQ.out.2.2.1.mid hD6 hT6
          have hop6 := HQ.out.2.2.1.opTurn HQ.out.2.2.2 hT6
          have H6 := Lib.hid (And.intro hD6 (And.intro hT6 (And.intro hR6 hop6)))
          clear e0 e1 e2 e3 e4 e5
          have e5 := hB6.cell 0
          simp only [List.getElem?_toArray, List.getElem?_cons_zero] at e5
          clear hD6 hT6 hR6 hB6 hO6 hop6
          generalize hbb : (!s.dead) = bb
          have HBB := Lib.hid hbb
          clear hbb
          go_wp2_with fail
          refine (rsync_all p s r w6 H6.out.2.2.1 HQ.out.2.2.1.mat (by have := HQ.out.2.2.1.cnt; omega) HQ.out.2.2.1.lm.2).mono ?_
          rintro en w7 ⟨rfl, ⟨q, hq, hR7⟩, hT7⟩
          rw [HBB.out]
          have hwc := sy_cnt s r k HQ.out.2.2.1.cnt HQ.out.2.2.1.lm
          have H7 := Lib.hid (And.intro (HQ.out.2.2.1.fin H6.out.1 H6.out.2.1 hR7 hT7 hq (match_sy HQ.out.2.2.1.mat) hwc.1 hwc.2) (H6.out.2.2.1.opTurn H6.out.2.2.2 hT7))
          clear hq hR7 hT7 hwc e5 H6
          obtain ⟨f0, f1, f2, f3, f4⟩ := OpV.blk_cells H7.out.2
          simp only at f0 f1 f2 f3 f4
          have f5 := H7.out.1.box.cell 0
          simp only [List.getElem?_toArray, List.getElem?_cons_zero] at f5
          go_wp2_with fail
          refine (same_any _ _ _ _ _ _ i w7 H7.out.1.disk H7.out.1.ref H7.out.1.mat).mono ?_
          rintro en w9 ⟨rfl, hb9⟩
          have X9 := Lib.hid (H7.out.1.below hb9)
          clear hb9 f0 f1 f2 f3 f4 f5
          go_wp2_with fail
          go_roundw
          case rel => exact ⟨k + 1, _, _, _, _, _, _, HC.out.1, HC.out.2, by go_num, rfl, X9.out⟩
          case measure => have := HC.out.2; simp [intOf]; omega
        · go_wp2_with fail
          refine (fuse_any d L xs s n' w4 HQ.out.2.2.1.disk).mono ?_
          rintro en w6 ⟨rfl, hD6, hT6'⟩
          have hT6 := hT6'.more (S' := [d, L]) (by simp)
          obtain ⟨hR6, hB6, hO6⟩ := HQ.out.2.2.1.mid hD6 hT6
          have hop6 := HQ.out.2.2.1.opTurn HQ.out.2.2.2 hT6
          have H6 := Lib.hid (And.intro hD6 (And.intro hT6 (And.intro hR6 hop6)))
          clear e0 e1 e2 e3 e4 e5
          obtain ⟨e0, e1, e2, e3, e4⟩ := OpV.blk_cells hop6
          simp only at e0 e1 e2 e3 e4
          have e5 := hB6.cell 0
          simp only [List.getElem?_toArray, List.getElem?_cons_zero] at e5
          clear hD6 hT6 hR6 hB6 hO6 hop6 hT6'
          go_wp2_with fail
          refine (rfuse_any p r n' w6 H6.out.2.2.1).mono ?_
          rintro en w7 ⟨rfl, hR7, hT7'⟩
          have hT7 := hT7'.more (S' := [p.d, p.gS, p.gN, p.gW]) (by simp)
          have hwc := fuse_cnt s r n' k HQ.out.2.2.1.cnt HKs.out.2.1.2 HQ.out.2.2.1.lm
          have H7 := Lib.hid (And.intro (HQ.out.2.2.1.fin H6.out.1 H6.out.2.1 hR7 hT7 ⟨rfl, rfl, rfl, rfl⟩ (match_fuse HQ.out.2.2.1.mat n') hwc.1 hwc.2) (H6.out.2.2.1.opTurn H6.out.2.2.2 hT7))
          clear hR7 hT7 hT7' hwc e0 e1 e2 e3 e4 e5 H6
          obtain ⟨f0, f1, f2, f3, f4⟩ := OpV.blk_cells H7.out.2
          simp only at f0 f1 f2 f3 f4
          have f5 := H7.out.1.box.cell 0
          simp only [List.getElem?_toArray, List.getElem?_cons_zero] at f5
          go_wp2_with fail
          refine (same_any _ _ _ _ _ _ i w7 H7.out.1.disk H7.out.1.ref H7.out.1.mat).mono ?_
          rintro en w9 ⟨rfl, hb9⟩
          have X9 := Lib.hid (H7.out.1.below hb9)
          clear hb9 f0 f1 f2 f3 f4 f5
          go_wp2_with fail
          go_roundw
          case rel => exact ⟨k + 1, _, _, _, _, _, _, HC.out.1, HC.out.2, by go_num, rfl, X9.out⟩
          case measure => have := HC.out.2; simp [intOf]; omega
        · go_wp2_with fail
          refine (crash_all HQ.out.2.2.1 HQ.out.2.2.2 HQ.out.2.1).mono ?_
          rintro en w6 ⟨rfl, ⟨ys, hD6⟩, hR6, hB6, hop6, hk6, hf6, ho6⟩
          have H6 := Lib.hid (And.intro hD6 (And.intro hR6 (And.intro hB6 (And.intro hop6 (And.intro hk6 (And.intro hf6 ho6))))))
          clear e0 e1 e2 e3 e4 e5
          obtain ⟨e0, e1, e2, e3, e4⟩ := OpV.blk_cells hop6
          simp only at e0 e1 e2 e3 e4
          have e5 := hB6.cell 0
          have e6 := hf6.cell 0
          simp only [List.getElem?_toArray, List.getElem?_cons_zero] at e5 e6
          clear hD6 hR6 hB6 hop6 hk6 hf6 ho6
          go_wp2_with fail
          refine (rcrash_any p r kA _ kc kl w6 H6.out.2.1 H6.out.2.2.2.2.1 HKs.out.2.2).mono ?_
          rintro en w7 ⟨rfl, ⟨q, hqd, hqS, hqN, hqW, hR7⟩, hb7⟩
          have hlo := HQ.out.2.2.1.old.size
          have hfin := crash_fin HQ.out.2.2.1 H6.out.1 (by omega) H6.out.2.2.1 H6.out.2.2.2.1 H6.out.2.2.2.2.2.1 H6.out.2.2.2.2.2.2 hqd hqS hqN hqW hR7 hb7 (match_crash HQ.out.2.2.1.mat kl _ (fun _ => rfl) HQ.out.2.2.1.ref.lenW HQ.out.2.2.1.ref.lenS) (Nat.zero_le _) (by simp [crashTo, Dsk.new, RDsk.crash, RDsk.new])
          have e7 := e5
          rw [← hb7.cell (p := ⟨br, 0, none⟩) H6.out.2.2.1.lt] at e7
          have e8 := (H6.out.2.2.1.below hb7).frozen 0
          have H7 := Lib.hid hfin
          have e9 := hfin.2.2
          clear hqd hqS hqN hqW hR7 hlo hfin e0 e1 e2 e3 e4 e5 e6
          obtain ⟨f0, f1, f2, f3, f4⟩ := OpV.blk_cells H7.out.2.1
          simp only at f0 f1 f2 f3 f4
          have f5 := H7.out.1.box.cell 0
          simp only [List.getElem?_toArray, List.getElem?_cons_zero] at f5
          go_wp2_with fail
          refine (same_any _ _ _ _ _ _ i _ H7.out.1.disk H7.out.1.ref H7.out.1.mat).mono ?_
          rintro en w9 ⟨rfl, hb9⟩
          have X9 := Lib.hid (H7.out.1.below hb9)
          clear hb9 f0 f1 f2 f3 f4 f5
          go_wp2_with fail
          go_roundw
          case rel => exact ⟨k + 1, _, _, _, _, _, _, HC.out.1, HC.out.2, by go_num, rfl, X9.out⟩
          case measure => have := HC.out.2; simp [intOf]; omega
      · have hlt' : ((k : Int) < m ∧ ¬ ((k : Int) < 40)) ∨ ¬ ((k : Int) < m) := by omega
        clear hlt
        rcases hlt' with ⟨hx1, hx2⟩ | hx1
        all_goals
          go_wp2_with fail
          refine region_old (by kernel_rfl) (fun wd hHeld hSz => ?_)
          have HSz := Lib.hid hSz
          clear hSz
          refine takeL (i := 0) (v := ?_) rfl (by kernel_rfl) (by kernel_rfl) (by kernel_rfl) (fun _ _ _ h => h) (Or.inl ⟨by rfl, ?_⟩) hHeld ?_
          rotate_left
          focus (intro wq hSw; clear hSw; go_simp; try with_reducible rfl)
          try simp only [Act.put, List.setIfInBounds_toArray, List.set_cons_zero, List.set_cons_succ]
          refine takeL (i := 1) (v := ?_) rfl (by kernel_rfl) (by kernel_rfl) (by kernel_rfl) (fun _ _ _ h => h) (Or.inl ⟨by rfl, ?_⟩) hHeld ?_
          rotate_left
          focus (intro wq hSw; clear hSw; go_simp; try with_reducible rfl)
          try simp only [Act.put, List.setIfInBounds_toArray, List.set_cons_zero, List.set_cons_succ]
          refine takeL (i := 2) (v := ?_) rfl (by kernel_rfl) (by kernel_rfl) (by kernel_rfl) (fun _ _ _ h => h) (Or.inl ⟨by rfl, ?_⟩) hHeld ?_
          rotate_left
          focus (intro wq hSw; clear hSw; go_simp; try with_reducible rfl)
          try simp only [Act.put, List.setIfInBounds_toArray, List.set_cons_zero, List.set_cons_succ]
          refine takeL (i := 3) (v := ?_) rfl (by kernel_rfl) (by kernel_rfl) (by kernel_rfl) (fun _ _ _ h => h) (Or.inl ⟨by rfl, ?_⟩) hHeld ?_
          rotate_left
          focus (intro wq hSw; clear hSw; go_simp; try with_reducible rfl)
          try simp only [Act.put, List.setIfInBounds_toArray, List.set_cons_zero, List.set_cons_succ]
          refine takeL (i := 4) (v := ?_) rfl (by kernel_rfl) (by kernel_rfl) (by kernel_rfl) (fun _ _ _ h => h) (Or.inl ⟨by rfl, ?_⟩) hHeld ?_
          rotate_left
          focus (intro wq hSw; clear hSw; go_simp; try with_reducible rfl)
          try simp only [Act.put, List.setIfInBounds_toArray, List.set_cons_zero, List.set_cons_succ]
          refine takeL (i := 5) (v := ?_) rfl (by kernel_rfl) (by kernel_rfl) (by kernel_rfl) (fun _ _ _ h => h) (Or.inl ⟨by rfl, ?_⟩) hHeld ?_
          rotate_left
          focus (intro wq hSw; clear hSw; go_simp; try with_reducible rfl)
          try simp only [Act.put, List.setIfInBounds_toArray, List.set_cons_zero, List.set_cons_succ]
          refine takeL (i := 8) (v := ?_) rfl (by kernel_rfl) (by kernel_rfl) (by kernel_rfl) (fun _ _ _ h => h) (Or.inl ⟨by rfl, ?_⟩) hHeld ?_
          rotate_left
          focus (intro wq hSw; have qb := ((HI.out.below hSw).box.cell 0); simp only [List.getElem?_toArray, List.getElem?_cons_zero] at qb; clear hSw; go_simp; try with_reducible rfl)
          try simp only [Act.put, List.setIfInBounds_toArray, List.set_cons_zero, List.set_cons_succ]
          refine wpAnyH_ready (rs := [6]) (by kernel_rfl) (by simp) ?_
          refine consL rfl (fun K hK => ?_) AllReadyH.nil
          go_simp
          refine (image_any d L xs s _ (HI.out.disk.below hHeld)).mono ?_
          rintro en w6 ⟨v6, rfl, hO6, hb6⟩
          obtain ⟨A6, c6, rfl, hr6, _⟩ := hO6.shape
          obtain ⟨n6, hn6⟩ : ∃ n6, s.image.length = n6 := ⟨_, rfl⟩
          rw [hn6] at hr6 ⊢
          rw [match_image HI.out.mat] at hr6
          have hb6' : Old wr w6 := Old.trans hHeld hb6
          clear hb6 hO6 hn6
          refine hK.out _ _ hb6' (fun hHeld => ?_)
          clear hK K
          try simp only [Act.put, List.setIfInBounds_toArray, List.set_cons_zero, List.set_cons_succ]
          refine wpAnyH_old (w1 := w6) hb6' (fun hHeld => ?_) (Old.refl _)
          refine takeL (i := 7) (v := ?_) rfl (by kernel_rfl) (by kernel_rfl) (by kernel_rfl) (fun _ _ _ h => h) (Or.inl ⟨by rfl, ?_⟩) hHeld ?_
          rotate_left
          focus (intro wq hSw; have hRun := hr6.str_below hSw; clear hSw; go_simp; try with_reducible rfl)
          try simp only [Act.put, List.setIfInBounds_toArray, List.set_cons_zero, List.set_cons_succ]
          refine wpAnyH_ready (rs := [9]) (by kernel_rfl) (by simp) ?_
          refine consL rfl (fun K hK => ?_) AllReadyH.nil
          go_simp
          refine (rimage_any p r _ (HI.out.ref.below (Old.trans hb6' hHeld))).mono ?_
          rintro en w7 ⟨v7, rfl, hO7, hb7⟩
          obtain ⟨A7, c7, rfl, hr7, _⟩ := hO7.shape
          have hb7' : Old w6 w7 := Old.trans hHeld hb7
          obtain ⟨n7, hn7⟩ : ∃ n7, r.image.length = n7 := ⟨_, rfl⟩
          rw [hn7] at hr7 ⊢
          clear hb7 hO7 hn7
          refine hK.out _ _ hb7' (fun hHeld => ?_)
          clear hK K
          try simp only [Act.put, List.setIfInBounds_toArray, List.set_cons_zero, List.set_cons_succ]
          refine wpAnyH_old (w1 := w7) hb7' (fun hHeld => ?_) (Old.refl _)
          refine takeL (i := 10) (v := ?_) rfl (by kernel_rfl) (by kernel_rfl) (by kernel_rfl) (fun _ _ _ h => h) (Or.inl ⟨by rfl, ?_⟩) hHeld ?_
          rotate_left
          focus (intro wq hSw; have hRun := hr7.str_below hSw; clear hSw; go_simp; try with_reducible rfl)
          try simp only [Act.put, List.setIfInBounds_toArray, List.set_cons_zero, List.set_cons_succ]
          refine takeL (i := 11) (v := ?_) rfl (by kernel_rfl) (by kernel_rfl) (by kernel_rfl) (fun _ _ _ h => h) (Or.inl ⟨by rfl, ?_⟩) hHeld ?_
          rotate_left
          focus (intro wq hSw; clear hSw; go_simp; try with_reducible rfl)
          try simp only [Act.put, List.setIfInBounds_toArray, List.set_cons_zero, List.set_cons_succ]
          refine takeL (i := 12) (v := ?_) rfl (by kernel_rfl) (by kernel_rfl) (by kernel_rfl) (fun _ _ _ h => h) (Or.inl ⟨by rfl, ?_⟩) hHeld ?_
          rotate_left
          focus (intro wq hSw; clear hSw; go_simp; try with_reducible rfl)
          try simp only [Act.put, List.setIfInBounds_toArray, List.set_cons_zero, List.set_cons_succ]
          refine takeL (i := 13) (v := ?_) rfl (by kernel_rfl) (by kernel_rfl) (by kernel_rfl) (fun _ _ _ h => h) (Or.inl ⟨by rfl, ?_⟩) hHeld ?_
          rotate_left
          focus (intro wq hSw; clear hSw; go_simp; try with_reducible rfl)
          try simp only [Act.put, List.setIfInBounds_toArray, List.set_cons_zero, List.set_cons_succ]
          refine takeL (i := 14) (v := ?_) rfl (by kernel_rfl) (by kernel_rfl) (by kernel_rfl) (fun _ _ _ h => h) (Or.inl ⟨by rfl, ?_⟩) hHeld ?_
          rotate_left
          focus (intro wq hSw; clear hSw; go_simp; try with_reducible rfl)
          try simp only [Act.put, List.setIfInBounds_toArray, List.set_cons_zero, List.set_cons_succ]
          refine wpAnyH_done (by kernel_rfl) ?_ _
          refine NoPanic.normal ?_
          simp only [Exit.then]
          go_wp2_with fail
          go_ret
          exact ⟨rfl, Old.trans HI.out.old (Old.trans hb6' hb7')⟩
end Go.Proofs.Ytpfijfflfgfojaa
