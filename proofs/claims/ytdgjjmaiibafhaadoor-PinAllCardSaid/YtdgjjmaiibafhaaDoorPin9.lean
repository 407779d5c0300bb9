/-
  pins: the law PinAll, walked.
-/
import Derived.Test.YtdgjjmaiibafhaaDoorPin6
import Derived.Test.YtdgjjmaiibafhaaDoorPinE
import Derived.Test.YtdgjjmaiibafhaaDoorPinOE
import Derived.Test.YtdgjjmaiibafhaaDoorPinOE
namespace Go.Proofs.YtdgjjmaiibafhaaDoor
set_option maxRecDepth 100000
open Go.RowKit

theorem PinAt.blk {w : World} {p : Nat} {s : PS} (h : PinAt w p s) : ∃ cs, Blk w p 49 cs := by
  rcases h with ⟨_, _, _, _, _, h⟩ | ⟨_, _, _, _, _, _, h, _⟩
  · exact ⟨_, h⟩
  · exact ⟨_, h⟩
theorem RpAt.blk {w : World} {p : Nat} {s : PS} (h : RpAt w p s) : ∃ cs, Blk w p 34 cs := by
  obtain ⟨_, _, _, _, _, _, h, _⟩ := h
  exact ⟨_, h⟩
theorem DrAt.blk {w : World} {p : Nat} {s : DS} {l : Int} (h : DrAt w p s l) : ∃ cs, Blk w p 51 cs := by
  obtain ⟨_, _, _, _, h, _⟩ := h
  exact ⟨_, h⟩
theorem ErAt.blk {w : World} {p : Nat} {s : DS} {l : Int} (h : ErAt w p s l) : ∃ cs, Blk w p 54 cs := by
  obtain ⟨_, _, _, _, h, _⟩ := h
  exact ⟨_, h⟩
theorem RpAt.cells {w : World} {p : Nat} {s : PS} (h : RpAt w p s) : w.cell? ⟨p, 0, none⟩ = some (.bool s.set) ∧ w.cell? ⟨p, 3, none⟩ = some (.int .i64 (s.tries : Int)) := by
  obtain ⟨_, _, _, _, _, _, h, _⟩ := h
  exact ⟨by have := h.cell 0; simpa using this, by have := h.cell 3; simpa using this⟩
/-- What stands between two rounds. -/
structure PaI (w wr : World) (p r d e : Nat) (s : PS) (ds : DS) (l1 l2 : Int) (k : Nat) : Prop where
  P : PinAt wr p s
  R : RpAt wr r s
  D : DrAt wr d ds l1
  E : ErAt wr e ds l2
  ok : s.Ok
  O : Old w wr
  lp : w.heap.size ≤ p
  lr : w.heap.size ≤ r
  ld : w.heap.size ≤ d
  le : w.heap.size ≤ e
  a1 : 0 ≤ l1
  a2 : l1 ≤ k
  b1 : 0 ≤ l2
  b2 : l2 ≤ k
section
variable {w wr : World} {p r d e : Nat} {s : PS} {ds : DS} {l1 l2 : Int} {k : Nat}
theorem PaI.below {w' : World} (h : PaI w wr p r d e s ds l1 l2 k) (hb : Old wr w') : PaI w w' p r d e s ds l1 l2 k :=
  ⟨h.P.below hb, h.R.below hb, h.D.below hb, h.E.below hb, h.ok, Old.trans h.O hb, h.lp, h.lr, h.ld, h.le, h.a1, h.a2, h.b1, h.b2⟩
theorem PaI.more (h : PaI w wr p r d e s ds l1 l2 k) : PaI w wr p r d e s ds l1 l2 (k + 1) :=
  ⟨h.P, h.R, h.D, h.E, h.ok, h.O, h.lp, h.lr, h.ld, h.le, h.a1, by have := h.a2; omega, h.b1, by have := h.b2; omega⟩
theorem pa_ne {w : World} {a b : Nat} {t t' : TypeId} (h1 : ∃ cs, Blk w a t cs) (h2 : ∃ cs, Blk w b t' cs) (hne : t ≠ t') : a ≠ b := by
  obtain ⟨_, h1⟩ := h1
  obtain ⟨_, h2⟩ := h2
  exact Blk.ne_ h1 h2 hne
/-- The program's side has turned; the reference's is as it was. -/
theorem PaI.half (h : PaI w wr p r d e s ds l1 l2 k) {w' : World} (ht : Turn [p, d] wr w') : RpAt w' r s ∧ ErAt w' e ds l2 ∧ Old w w' := by
  have hn : ∀ g ∈ [p, d], NoB wr g := fun g hg => by
    rcases List.mem_cons.1 hg with rfl | hg
    · exact h.P.noB
    · rw [List.mem_singleton] at hg
      subst hg
      exact h.D.noB
  have n1 := pa_ne h.R.blk h.P.blk (by decide)
  have n2 := pa_ne h.R.blk h.D.blk (by decide)
  have n3 := pa_ne h.E.blk h.P.blk (by decide)
  have n4 := pa_ne h.E.blk h.D.blk (by decide)
  exact ⟨h.R.turn ht (by simp [n1, n2]) hn, h.E.turn ht (by simp [n3, n4]) hn, below_turn h.O ht (by have := h.lp; have := h.ld; simp; omega) h.O.size⟩
theorem PaI.whole (h : PaI w wr p r d e s ds l1 l2 k) {w1 w2 : World} {s' : PS} {ds' : DS} {m1 m2 : Int} (hP : PinAt w1 p s') (hD : DrAt w1 d ds' m1) (hR1 : RpAt w1 r s) (hE1 : ErAt w1 e ds l2) (hO : Old w w1) (ht : Turn [r, e] w1 w2) (hR : RpAt w2 r s') (hE : ErAt w2 e ds' m2) (hok : s'.Ok)
    (a1 : l1 ≤ m1) (a2 : m1 ≤ l1 + 1) (b1 : l2 ≤ m2) (b2 : m2 ≤ l2 + 1) : PaI w w2 p r d e s' ds' m1 m2 (k + 1) := by
  have hn : ∀ g ∈ [r, e], NoB w1 g := fun g hg => by
    rcases List.mem_cons.1 hg with rfl | hg
    · exact hR1.noB
    · rw [List.mem_singleton] at hg
      subst hg
      exact hE1.noB
  have n1 := pa_ne hP.blk hR1.blk (by decide)
  have n2 := pa_ne hP.blk hE1.blk (by decide)
  have n3 := pa_ne hD.blk hR1.blk (by decide)
  have n4 := pa_ne hD.blk hE1.blk (by decide)
  exact ⟨hP.turn ht (by simp [n1, n2]) hn, hR, hD.turn ht (by simp [n3, n4]) hn, hE, hok, below_turn hO ht (by have := h.lr; have := h.le; simp; omega) hO.size, h.lp, h.lr, h.ld, h.le, by have := h.a1; omega, by have := h.a2; omega, by have := h.b1; omega, by have := h.b2; omega⟩
/-- There and back as bytes. -/
theorem PaI.back (h : PaI w wr p r d e s ds l1 l2 k) {w2 : World} {q : Nat} (hb : Old wr w2) (hq : PinAt w2 q (if s.set = true then s else PS.none)) (hqw : w.heap.size ≤ q) : PaI w w2 q r d e (if s.set = true then s else PS.none) ds l1 l2 (k + 1) := by
  have h2 := h.below hb
  cases hs : s.set with
  | true =>
    rw [hs, if_pos rfl] at hq
    rw [if_pos rfl]
    exact ⟨hq, h2.R, h2.D, h2.E, h2.ok, h2.O, hqw, h2.lr, h2.ld, h2.le, h2.a1, by have := h.a2; omega, h2.b1, by have := h.b2; omega⟩
  | false =>
    rw [hs, if_neg (by simp)] at hq
    rw [if_neg (by simp)]
    have ht : s.tries = 0 := by
      rcases h.P with ⟨_, h0, _⟩ | ⟨h0, _⟩
      · exact h0
      · rw [hs] at h0; cases h0
    have hR : RpAt w2 r PS.none := by
      obtain ⟨A1, n1, c1, A2, n2, c2, hB, _⟩ := h2.R
      rw [hs, ht] at hB
      exact ⟨A1, n1, c1, A2, n2, c2, hB, fun e => by cases e⟩
    exact ⟨hq, hR, h2.D, h2.E, PS.ok_none, h2.O, hqw, h2.lr, h2.ld, h2.le, h2.a1, by have := h.a2; omega, h2.b1, by have := h.b2; omega⟩
end
set_option maxHeartbeats 4000000 in
theorem pinAll_any (A : Option Addr) (m c : Nat) (ent : List UInt8) (A2 : Option Addr) (N c2 : Nat) (ops : List OpX) (w : World) (hK : KAt w) (hm : m ≤ 140737488351232) (hr : Rd w A m c ent) (hN : N ≤ maxLen) (ho : RdC Tryd.eX w A2 N ops ∧ ∀ x ∈ ops, x.ok w) :
    Calls Tryd.prog 4 #[.slice A m c, .slice A2 N c2] w fun e w' => e = .returned (.bool true) ∧ Below w.heap.size w w' := by
  have hel : ent.length ≤ 140737488351300 := by rw [← hr.1]; omega
  have HW := Lib.hid (And.intro hK (And.intro hr (And.intro ho hel)))
  have hN2 : N ≤ 9223372036854775807 := by unfold maxLen at hN; omega
  have k1 := nePin
  clear hK hm hr hN ho hel
  go_enter Tryd.func4, Tryd.ntmps4
  go_wp2_with fail
  refine (begun21_any w HW.out.1).mono ?_
  rintro e w1 ⟨rfl, hO1⟩
  have H1 := Lib.hid hO1
  clear hO1
  go_wp2_with fail
  refine (pnew_any w1).mono ?_
  rintro e w2 ⟨p, rfl, hp2, hpw, hO2⟩
  have H2 := Lib.hid (And.intro hp2 (And.intro (Nat.le_trans H1.out.size hpw) (Old.trans H1.out hO2)))
  clear hp2 hpw hO2
  go_wp2_with fail
  have hO3 : Old w (w2.alloc (.cells #[.bool false, .slice none 0 0, .slice none 0 0, .int .i64 0] 34)) := Old.alloc H2.out.2.2 _
  refine (drnew_any A m c ent _ (HW.out.2.1.below hO3) HW.out.2.2.2 (HW.out.1.below hO3)).mono ?_
  rintro e w4 ⟨d, rfl, hD4, hdw, hO4⟩
  obtain ⟨r, hr⟩ : ∃ r, w2.heap.size = r := ⟨_, rfl⟩
  have hR4 : RpAt w4 r PS.none := by
    have hb := (Blk.new w2 34 #[.bool false, .slice none 0 0, .slice none 0 0, .int .i64 0]).below hO4
    rw [hr] at hb
    exact ⟨none, 0, 0, none, 0, 0, hb, fun e => by cases e⟩
  have H4 := Lib.hid (And.intro (H2.out.1.below (Old.trans ((Old.refl w2).alloc _) hO4)) (And.intro hR4 (And.intro hD4 (And.intro (Old.trans hO3 hO4) (And.intro (show w.heap.size ≤ r by rw [← hr]; exact H2.out.2.2.size) (show w.heap.size ≤ d from Nat.le_trans hO3.size hdw))))))
  rw [hr]
  clear hD4 hdw hO4 hr hR4 hO3
  go_wp2_with fail
  refine (rnew_any A m c ent w4 (HW.out.2.1.below H4.out.2.2.2.1) HW.out.2.2.2).mono ?_
  rintro e w5 ⟨e5, rfl, hE5, hew, hO5⟩
  have hI5 : PaI w w5 p r d e5 PS.none (DS.new ent) 0 0 0 := ⟨H4.out.1.below hO5, H4.out.2.1.below hO5, H4.out.2.2.1.below hO5, hE5, PS.ok_none, Old.trans H4.out.2.2.2.1 hO5, H2.out.2.1, H4.out.2.2.2.2.1, H4.out.2.2.2.2.2, Nat.le_trans H4.out.2.2.2.1.size hew, by omega, by omega, by omega, by omega⟩
  have H5 := Lib.hid hI5
  clear hE5 hew hO5 hI5
  go_wp2_with fail
  go_loopw [6, 10] (fun pv iv wr => ∃ (k p : Nat) (s : PS) (ds : DS) (l1 l2 : Int), k ≤ N ∧ k ≤ 14 ∧ pv = .pointer (some ⟨p, 0, none⟩) ∧ iv = .int .i64 (k : Int) ∧ PaI w wr p r d e5 s ds l1 l2 k) (fun _ iv _ => 14 - (intOf iv).toNat)
  case atStart => exact ⟨0, p, PS.none, DS.new ent, 0, 0, by omega, by omega, rfl, rfl, H5.out⟩
  case round =>
    obtain ⟨k, p, s, ds, l1, l2, hk, hk14, rfl, rfl, hI⟩ := hrel
    by_cases hlt : k < N
    · have hlti : (k : Int) < N := by omega
      have hltd : decide ((k : Int) < (N : Int)) = true := decide_eq_true hlti
      by_cases hl14 : k < 14
      · have hl14i : (k : Int) < 14 := by omega
        have hl14d : decide ((k : Int) < 14) = true := decide_eq_true hl14i
        obtain ⟨x, hx⟩ : ∃ x, ops[k]? = some x := ⟨_, List.getElem?_eq_getElem (by rw [HW.out.2.2.1.1.1]; exact hlt)⟩
        obtain ⟨g0, off, hA2, hg0, hc⟩ := HW.out.2.2.1.1.at_ hx
        subst hA2
        have c0 := hc 0 (by decide)
        have c1 := hc 1 (by decide)
        have hE := HW.out.2.2.1.2 x (List.mem_of_getElem? hx)
        obtain ⟨kind, xA, xn, xc, xl⟩ := x
        have c0' : w.cell? ⟨g0, off + k * 2, none⟩ = some (.int .i64 kind) := c0
        have c1' : w.cell? ⟨g0, off + k * 2 + 1, none⟩ = some (.slice xA xn xc) := c1
        have z0 := cellOld hI.O c0'
        have z1 := cellOld hI.O c1'
        have hrE : RdE w xA xn xc xl := hE
        have hsh := short_E xA xn xc 80 xl wr (hrE.below hI.O) (by omega)
        rw [show ((80 : Nat) : Int) = 80 from rfl] at hsh
        obtain ⟨xn2, hxn2⟩ : ∃ n, min xn 80 = n := ⟨_, rfl⟩
        obtain ⟨pin, hpin⟩ : ∃ l, xl.take 80 = l := ⟨_, rfl⟩
        have hrP : RdE w xA xn2 xc pin := by rw [← hxn2, ← hpin]; exact hrE.short
        have hpl : pin.length ≤ 80 := by rw [← hpin, List.length_take]; omega
        rw [hxn2] at hsh
        have HI := Lib.hid (And.intro hI (And.intro hrP hpl))
        clear hI hx hc c0 c1 c0' c1' hE hrE hxn2 hpin hrP hpl hg0 hk hk14
        by_cases hk0 : kind = 0
        · subst hk0
          obtain ⟨X, s1, ds1, hput⟩ : ∃ X s1 ds1, s.put ds pin = (X, s1, ds1) := ⟨_, _, _, rfl⟩
          have hok := PS.Ok.put HI.out.1.ok HI.out.1.D.ok pin
          rw [hput] at hok
          have hdk : d ≠ 1 := by have h1 := HW.out.1.1; have h2 := HI.out.1.ld; omega
          have hpk : p ≠ 1 := by have h1 := HW.out.1.1; have h2 := HI.out.1.lp; omega
          have hp1 := putE_any p d s ds l1 xA xn2 xc pin wr HI.out.1.P HI.out.1.D (HI.out.2.1.below HI.out.1.O) HI.out.1.a1 (by have := HI.out.1.a2; omega) (HW.out.1.below HI.out.1.O) hdk hpk
          rw [hput] at hp1
          have HOK := Lib.hid hok.1
          clear hdk hpk hok
          go_wp2_with fail
          refine hsh.mono ?_
          rintro e w' ⟨rfl, rfl⟩
          go_wp2_with fail
          refine hp1.mono ?_
          rintro e w6 ⟨m1, a1, a2, rfl, hP6, hD6, hT6⟩
          obtain ⟨hR6, hE6, hO6⟩ := HI.out.1.half hT6
          have hp2 := rputE_any r e5 s ds l2 xA xn2 xc pin w6 hR6 hE6 (HI.out.2.1.below hO6) HI.out.1.b1 (by have := HI.out.1.b2; omega)
          rw [hput] at hp2
          have H6 := Lib.hid (And.intro hP6 (And.intro hD6 (And.intro hR6 (And.intro hE6 (And.intro hO6 (And.intro a1 a2))))))
          clear hp1 hP6 hD6 hT6 hR6 hE6 hO6 a1 a2
          go_wp2_with fail
          refine hp2.mono ?_
          rintro e w7 ⟨m2, b1, b2, rfl, hR7, hE7, hT7⟩
          have hI7 := HI.out.1.whole H6.out.1 H6.out.2.1 H6.out.2.2.1 H6.out.2.2.2.1 H6.out.2.2.2.2.1 hT7 hR7 hE7 HOK.out H6.out.2.2.2.2.2.1 H6.out.2.2.2.2.2.2 b1 b2
          clear hp2 hR7 hE7 hT7 b1 b2 hput
          obtain ⟨s9, hs9⟩ : ∃ s9, s1 = s9 := ⟨_, rfl⟩
          rw [hs9] at hI7
          clear hs9
          obtain ⟨b9, hb9⟩ : ∃ b, decide (3 ≤ s9.tries) = b := ⟨_, rfl⟩
          have hb9i : decide ((3 : Int) ≤ (s9.tries : Int)) = b9 := by rw [← hb9]; congr 1; exact propext (by omega)
          have HT := Lib.hid hI7
          have HB9 := Lib.hid (And.intro hb9 (And.intro hb9i hI7.R.cells))
          clear hI7 hb9 hb9i
          go_wp2_with fail
          refine region_old (by kernel_rfl) (fun wd hHeld hSz => ?_)
          have HSz := Lib.hid hSz
          clear hSz
          refine takeL (i := 0) (v := ?_) rfl (by kernel_rfl) (by kernel_rfl) (by kernel_rfl) (fun _ _ _ h => h) (Or.inl ⟨by rfl, ?_⟩) hHeld ?_
          rotate_left
          focus (intro wq hSw; clear hSw; go_simp; try with_reducible rfl)
          try simp only [Act.put, List.setIfInBounds_toArray, List.set_cons_zero, List.set_cons_succ]
          refine takeL (i := 2) (v := ?_) rfl (by kernel_rfl) (by kernel_rfl) (by kernel_rfl) (fun _ _ _ h => h) (Or.inl ⟨by rfl, ?_⟩) hHeld ?_
          rotate_left
          focus (intro wq hSw; clear hSw; go_simp; try with_reducible rfl)
          try simp only [Act.put, List.setIfInBounds_toArray, List.set_cons_zero, List.set_cons_succ]
          refine takeL (i := 3) (v := ?_) rfl (by kernel_rfl) (by kernel_rfl) (by kernel_rfl) (fun _ _ _ h => h) (Or.inl ⟨by rfl, ?_⟩) hHeld ?_
          rotate_left
          focus (intro wq hSw; clear hSw; go_simp; try with_reducible rfl)
          try simp only [Act.put, List.setIfInBounds_toArray, List.set_cons_zero, List.set_cons_succ]
          refine takeL (i := 4) (v := ?_) rfl (by kernel_rfl) (by kernel_rfl) (by kernel_rfl) (fun _ _ _ h => h) (Or.inl ⟨by rfl, ?_⟩) hHeld ?_
          rotate_left
          focus (intro wq hSw; clear hSw; go_simp; try with_reducible rfl)
          try simp only [Act.put, List.setIfInBounds_toArray, List.set_cons_zero, List.set_cons_succ]
          refine takeL (i := 5) (v := ?_) rfl (by kernel_rfl) (by kernel_rfl) (by kernel_rfl) (fun _ _ _ h => h) (Or.inl ⟨by rfl, ?_⟩) hHeld ?_
          rotate_left
          focus (intro wq hSw; have q0 := cellOld hSw HB9.out.2.2.1; clear hSw; go_simp; try with_reducible rfl)
          try simp only [Act.put, List.setIfInBounds_toArray, List.set_cons_zero, List.set_cons_succ]
          refine wpAnyH_ready (rs := [1]) (by kernel_rfl) (by simp) ?_
          refine consL rfl (fun K hK => ?_) AllReadyH.nil
          go_simp
          refine (pis_any p s9 _ (HT.out.P.below hHeld)).mono ?_
          rintro e w' ⟨rfl, rfl⟩
          refine hK.out _ _ hHeld (fun hHeld => ?_)
          clear hK K
          try simp only [Act.put, List.setIfInBounds_toArray, List.set_cons_zero, List.set_cons_succ]
          refine takeL (i := 6) (v := ?_) rfl (by kernel_rfl) (by kernel_rfl) (by kernel_rfl) (fun _ _ _ h => h) (Or.inl ⟨by rfl, ?_⟩) hHeld ?_
          rotate_left
          focus (intro wq hSw; clear hSw; go_simp; try with_reducible rfl)
          try simp only [Act.put, List.setIfInBounds_toArray, List.set_cons_zero, List.set_cons_succ]
          refine takeL (i := 7) (v := ?_) rfl (by kernel_rfl) (by kernel_rfl) (by kernel_rfl) (fun _ _ _ h => h) (Or.inl ⟨by rfl, ?_⟩) hHeld ?_
          rotate_left
          focus (intro wq hSw; clear hSw; go_simp; try with_reducible rfl)
          try simp only [Act.put, List.setIfInBounds_toArray, List.set_cons_zero, List.set_cons_succ]
          refine takeL (i := 8) (v := ?_) rfl (by kernel_rfl) (by kernel_rfl) (by kernel_rfl) (fun _ _ _ h => h) (Or.inl ⟨by rfl, ?_⟩) hHeld ?_
          rotate_left
          focus (intro wq hSw; clear hSw; go_simp; try with_reducible rfl)
          try simp only [Act.put, List.setIfInBounds_toArray, List.set_cons_zero, List.set_cons_succ]
          refine takeL (i := 10) (v := ?_) rfl (by kernel_rfl) (by kernel_rfl) (by kernel_rfl) (fun _ _ _ h => h) (Or.inl ⟨by rfl, ?_⟩) hHeld ?_
          rotate_left
          focus (intro wq hSw; clear hSw; go_simp; try with_reducible rfl)
          try simp only [Act.put, List.setIfInBounds_toArray, List.set_cons_zero, List.set_cons_succ]
          refine takeL (i := 11) (v := ?_) rfl (by kernel_rfl) (by kernel_rfl) (by kernel_rfl) (fun _ _ _ h => h) (Or.inl ⟨by rfl, ?_⟩) hHeld ?_
          rotate_left
          focus (intro wq hSw; clear hSw; go_simp; try with_reducible rfl)
          try simp only [Act.put, List.setIfInBounds_toArray, List.set_cons_zero, List.set_cons_succ]
          refine takeL (i := 12) (v := ?_) rfl (by kernel_rfl) (by kernel_rfl) (by kernel_rfl) (fun _ _ _ h => h) (Or.inl ⟨by rfl, ?_⟩) hHeld ?_
          rotate_left
          focus (intro wq hSw; clear hSw; go_simp; try with_reducible rfl)
          try simp only [Act.put, List.setIfInBounds_toArray, List.set_cons_zero, List.set_cons_succ]
          refine takeL (i := 13) (v := ?_) rfl (by kernel_rfl) (by kernel_rfl) (by kernel_rfl) (fun _ _ _ h => h) (Or.inl ⟨by rfl, ?_⟩) hHeld ?_
          rotate_left
          focus (intro wq hSw; have q3 := cellOld hSw HB9.out.2.2.2; clear hSw; go_simp; try with_reducible rfl)
          try simp only [Act.put, List.setIfInBounds_toArray, List.set_cons_zero, List.set_cons_succ]
          refine wpAnyH_ready (rs := [9]) (by kernel_rfl) (by simp) ?_
          refine consL rfl (fun K hK => ?_) AllReadyH.nil
          go_simp
          refine (tries_any p s9 _ (HT.out.P.below hHeld)).mono ?_
          rintro e w' ⟨rfl, rfl⟩
          refine hK.out _ _ hHeld (fun hHeld => ?_)
          clear hK K
          try simp only [Act.put, List.setIfInBounds_toArray, List.set_cons_zero, List.set_cons_succ]
          refine takeL (i := 14) (v := ?_) rfl (by kernel_rfl) (by kernel_rfl) (by kernel_rfl) (fun _ _ _ h => h) (Or.inl ⟨by rfl, ?_⟩) hHeld ?_
          rotate_left
          focus (intro wq hSw; clear hSw; go_simp; try with_reducible rfl)
          try simp only [Act.put, List.setIfInBounds_toArray, List.set_cons_zero, List.set_cons_succ]
          refine takeL (i := 15) (v := ?_) rfl (by kernel_rfl) (by kernel_rfl) (by kernel_rfl) (fun _ _ _ h => h) (Or.inl ⟨by rfl, ?_⟩) hHeld ?_
          rotate_left
          focus (intro wq hSw; clear hSw; go_simp; try with_reducible rfl)
          try simp only [Act.put, List.setIfInBounds_toArray, List.set_cons_zero, List.set_cons_succ]
          refine takeL (i := 16) (v := ?_) rfl (by kernel_rfl) (by kernel_rfl) (by kernel_rfl) (fun _ _ _ h => h) (Or.inl ⟨by rfl, ?_⟩) hHeld ?_
          rotate_left
          focus (intro wq hSw; clear hSw; go_simp; try with_reducible rfl)
          try simp only [Act.put, List.setIfInBounds_toArray, List.set_cons_zero, List.set_cons_succ]
          refine takeL (i := 17) (v := ?_) rfl (by kernel_rfl) (by kernel_rfl) (by kernel_rfl) (fun _ _ _ h => h) (Or.inl ⟨by rfl, ?_⟩) hHeld ?_
          rotate_left
          focus (intro wq hSw; clear hSw; go_simp; try with_reducible rfl)
          try simp only [Act.put, List.setIfInBounds_toArray, List.set_cons_zero, List.set_cons_succ]
          refine takeL (i := 19) (v := ?_) rfl (by kernel_rfl) (by kernel_rfl) (by kernel_rfl) (fun _ _ _ h => h) (Or.inl ⟨by rfl, ?_⟩) hHeld ?_
          rotate_left
          focus (intro wq hSw; clear hSw; go_simp; try with_reducible rfl)
          try simp only [Act.put, List.setIfInBounds_toArray, List.set_cons_zero, List.set_cons_succ]
          refine takeL (i := 20) (v := ?_) rfl (by kernel_rfl) (by kernel_rfl) (by kernel_rfl) (fun _ _ _ h => h) (Or.inl ⟨by rfl, ?_⟩) hHeld ?_
          rotate_left
          focus (intro wq hSw; clear hSw; go_simp; try with_reducible rfl)
          try simp only [Act.put, List.setIfInBounds_toArray, List.set_cons_zero, List.set_cons_succ]
          refine takeL (i := 21) (v := ?_) rfl (by kernel_rfl) (by kernel_rfl) (by kernel_rfl) (fun _ _ _ h => h) (Or.inl ⟨by rfl, ?_⟩) hHeld ?_
          rotate_left
          focus (intro wq hSw; clear hSw; go_simp; try with_reducible rfl)
          try simp only [Act.put, List.setIfInBounds_toArray, List.set_cons_zero, List.set_cons_succ]
          refine takeL (i := 22) (v := ?_) rfl (by kernel_rfl) (by kernel_rfl) (by kernel_rfl) (fun _ _ _ h => h) (Or.inl ⟨by rfl, ?_⟩) hHeld ?_
          rotate_left
          focus (intro wq hSw; have q3 := cellOld hSw HB9.out.2.2.2; clear hSw; go_simp; try with_reducible rfl)
          try simp only [Act.put, List.setIfInBounds_toArray, List.set_cons_zero, List.set_cons_succ]
          refine takeL (i := 23) (v := ?_) rfl (by kernel_rfl) (by kernel_rfl) (by kernel_rfl) (fun _ _ _ h => h) (Or.inl ⟨by rfl, ?_⟩) hHeld ?_
          rotate_left
          focus (intro wq hSw; have hb := HB9.out.2.1; clear hSw; go_simp; try with_reducible rfl)
          try simp only [Act.put, List.setIfInBounds_toArray, List.set_cons_zero, List.set_cons_succ]
          refine wpAnyH_ready (rs := [18]) (by kernel_rfl) (by simp) ?_
          refine consL rfl (fun K hK => ?_) AllReadyH.nil
          go_simp
          refine (locked_any p s9 _ (HT.out.P.below hHeld)).mono ?_
          rintro e w' ⟨rfl, rfl⟩
          rw [HB9.out.1]
          refine hK.out _ _ hHeld (fun hHeld => ?_)
          clear hK K
          try simp only [Act.put, List.setIfInBounds_toArray, List.set_cons_zero, List.set_cons_succ]
          refine takeL (i := 24) (v := ?_) rfl (by kernel_rfl) (by kernel_rfl) (by kernel_rfl) (fun _ _ _ h => h) (Or.inl ⟨by rfl, ?_⟩) hHeld ?_
          rotate_left
          focus (intro wq hSw; clear hSw; go_simp; try with_reducible rfl)
          try simp only [Act.put, List.setIfInBounds_toArray, List.set_cons_zero, List.set_cons_succ]
          refine takeL (i := 25) (v := ?_) rfl (by kernel_rfl) (by kernel_rfl) (by kernel_rfl) (fun _ _ _ h => h) (Or.inl ⟨by rfl, ?_⟩) hHeld ?_
          rotate_left
          focus (intro wq hSw; clear hSw; go_simp; try with_reducible rfl)
          try simp only [Act.put, List.setIfInBounds_toArray, List.set_cons_zero, List.set_cons_succ]
          refine wpAnyH_done (by kernel_rfl) ?_ _
          refine NoPanic.normal ?_
          try simp only [Exit.then]
          have H9 := Lib.hid (HT.out.below hHeld)
          clear hHeld
          go_wp2_with fail
          go_roundw
          case measure => simp [intOf]; omega
          exact ⟨k + 1, p, s9, ds1, m1, m2, by omega, by omega, rfl, by simp, H9.out⟩
        · by_cases hk1 : kind = 1
          · subst hk1
            obtain ⟨X, s1, hchk⟩ : ∃ X s1, s.check pin = (X, s1) := ⟨_, _, rfl⟩
            have hok := PS.Ok.check HI.out.1.ok pin
            rw [hchk] at hok
            have hp1 := checkE_any p s xA xn2 xc pin wr HI.out.1.P HI.out.1.ok (HI.out.2.1.below HI.out.1.O) (by have := HI.out.2.2; omega) (HW.out.1.below HI.out.1.O)
            rw [hchk] at hp1
            have HOK := Lib.hid hok
            clear hok
            go_wp2_with fail
            refine hsh.mono ?_
            rintro e w' ⟨rfl, rfl⟩
            go_wp2_with fail
            refine hp1.mono ?_
            rintro e w6 ⟨rfl, hP6, hT6'⟩
            have hT6 : Turn [p, d] wr w6 := hT6'.more (by simp)
            obtain ⟨hR6, hE6, hO6⟩ := HI.out.1.half hT6
            have hD6 : DrAt w6 d ds l1 := HI.out.1.D.turn hT6' (by simp; exact pa_ne HI.out.1.D.blk HI.out.1.P.blk (by decide)) (one_noB p HI.out.1.P.noB)
            have hp2 := rcheckE_any r s xA xn2 xc pin w6 hR6 HI.out.1.ok (HI.out.2.1.below hO6) (by have := HI.out.2.2; omega)
            rw [hchk] at hp2
            have H6 := Lib.hid (And.intro hP6 (And.intro hD6 (And.intro hR6 (And.intro hE6 hO6))))
            clear hp1 hP6 hD6 hT6 hT6' hR6 hE6 hO6
            go_wp2_with fail
            refine hp2.mono ?_
            rintro e w7 ⟨rfl, hR7, hT7⟩
            have hE7 : ErAt w7 e5 ds l2 := H6.out.2.2.2.1.turn hT7 (by simp; exact pa_ne H6.out.2.2.2.1.blk H6.out.2.2.1.blk (by decide)) (one_noB r H6.out.2.2.1.noB)
            have hI7 := HI.out.1.whole H6.out.1 H6.out.2.1 H6.out.2.2.1 H6.out.2.2.2.1 H6.out.2.2.2.2 (hT7.more (by simp)) hR7 hE7 HOK.out (by omega) (by omega) (by omega) (by omega)
            clear hp2 hR7 hE7 hT7 hchk
            obtain ⟨s9, hs9⟩ : ∃ s9, s1 = s9 := ⟨_, rfl⟩
            rw [hs9] at hI7
            clear hs9
            obtain ⟨b9, hb9⟩ : ∃ b, decide (3 ≤ s9.tries) = b := ⟨_, rfl⟩
            have hb9i : decide ((3 : Int) ≤ (s9.tries : Int)) = b9 := by rw [← hb9]; congr 1; exact propext (by omega)
            have HT := Lib.hid hI7
            have HB9 := Lib.hid (And.intro hb9 (And.intro hb9i hI7.R.cells))
            clear hI7 hb9 hb9i
            go_wp2_with fail
            refine region_old (by kernel_rfl) (fun wd hHeld hSz => ?_)
            have HSz := Lib.hid hSz
            clear hSz
            refine takeL (i := 0) (v := ?_) rfl (by kernel_rfl) (by kernel_rfl) (by kernel_rfl) (fun _ _ _ h => h) (Or.inl ⟨by rfl, ?_⟩) hHeld ?_
            rotate_left
            focus (intro wq hSw; clear hSw; go_simp; try with_reducible rfl)
            try simp only [Act.put, List.setIfInBounds_toArray, List.set_cons_zero, List.set_cons_succ]
            refine takeL (i := 2) (v := ?_) rfl (by kernel_rfl) (by kernel_rfl) (by kernel_rfl) (fun _ _ _ h => h) (Or.inl ⟨by rfl, ?_⟩) hHeld ?_
            rotate_left
            focus (intro wq hSw; clear hSw; go_simp; try with_reducible rfl)
            try simp only [Act.put, List.setIfInBounds_toArray, List.set_cons_zero, List.set_cons_succ]
            refine takeL (i := 3) (v := ?_) rfl (by kernel_rfl) (by kernel_rfl) (by kernel_rfl) (fun _ _ _ h => h) (Or.inl ⟨by rfl, ?_⟩) hHeld ?_
            rotate_left
            focus (intro wq hSw; clear hSw; go_simp; try with_reducible rfl)
            try simp only [Act.put, List.setIfInBounds_toArray, List.set_cons_zero, List.set_cons_succ]
            refine takeL (i := 4) (v := ?_) rfl (by kernel_rfl) (by kernel_rfl) (by kernel_rfl) (fun _ _ _ h => h) (Or.inl ⟨by rfl, ?_⟩) hHeld ?_
            rotate_left
            focus (intro wq hSw; clear hSw; go_simp; try with_reducible rfl)
            try simp only [Act.put, List.setIfInBounds_toArray, List.set_cons_zero, List.set_cons_succ]
            refine takeL (i := 5) (v := ?_) rfl (by kernel_rfl) (by kernel_rfl) (by kernel_rfl) (fun _ _ _ h => h) (Or.inl ⟨by rfl, ?_⟩) hHeld ?_
            rotate_left
            focus (intro wq hSw; have q0 := cellOld hSw HB9.out.2.2.1; clear hSw; go_simp; try with_reducible rfl)
            try simp only [Act.put, List.setIfInBounds_toArray, List.set_cons_zero, List.set_cons_succ]
            refine wpAnyH_ready (rs := [1]) (by kernel_rfl) (by simp) ?_
            refine consL rfl (fun K hK => ?_) AllReadyH.nil
            go_simp
            refine (pis_any p s9 _ (HT.out.P.below hHeld)).mono ?_
            rintro e w' ⟨rfl, rfl⟩
            refine hK.out _ _ hHeld (fun hHeld => ?_)
            clear hK K
            try simp only [Act.put, List.setIfInBounds_toArray, List.set_cons_zero, List.set_cons_succ]
            refine takeL (i := 6) (v := ?_) rfl (by kernel_rfl) (by kernel_rfl) (by kernel_rfl) (fun _ _ _ h => h) (Or.inl ⟨by rfl, ?_⟩) hHeld ?_
            rotate_left
            focus (intro wq hSw; clear hSw; go_simp; try with_reducible rfl)
            try simp only [Act.put, List.setIfInBounds_toArray, List.set_cons_zero, List.set_cons_succ]
            refine takeL (i := 7) (v := ?_) rfl (by kernel_rfl) (by kernel_rfl) (by kernel_rfl) (fun _ _ _ h => h) (Or.inl ⟨by rfl, ?_⟩) hHeld ?_
            rotate_left
            focus (intro wq hSw; clear hSw; go_simp; try with_reducible rfl)
            try simp only [Act.put, List.setIfInBounds_toArray, List.set_cons_zero, List.set_cons_succ]
            refine takeL (i := 8) (v := ?_) rfl (by kernel_rfl) (by kernel_rfl) (by kernel_rfl) (fun _ _ _ h => h) (Or.inl ⟨by rfl, ?_⟩) hHeld ?_
            rotate_left
            focus (intro wq hSw; clear hSw; go_simp; try with_reducible rfl)
            try simp only [Act.put, List.setIfInBounds_toArray, List.set_cons_zero, List.set_cons_succ]
            refine takeL (i := 10) (v := ?_) rfl (by kernel_rfl) (by kernel_rfl) (by kernel_rfl) (fun _ _ _ h => h) (Or.inl ⟨by rfl, ?_⟩) hHeld ?_
            rotate_left
            focus (intro wq hSw; clear hSw; go_simp; try with_reducible rfl)
            try simp only [Act.put, List.setIfInBounds_toArray, List.set_cons_zero, List.set_cons_succ]
            refine takeL (i := 11) (v := ?_) rfl (by kernel_rfl) (by kernel_rfl) (by kernel_rfl) (fun _ _ _ h => h) (Or.inl ⟨by rfl, ?_⟩) hHeld ?_
            rotate_left
            focus (intro wq hSw; clear hSw; go_simp; try with_reducible rfl)
            try simp only [Act.put, List.setIfInBounds_toArray, List.set_cons_zero, List.set_cons_succ]
            refine takeL (i := 12) (v := ?_) rfl (by kernel_rfl) (by kernel_rfl) (by kernel_rfl) (fun _ _ _ h => h) (Or.inl ⟨by rfl, ?_⟩) hHeld ?_
            rotate_left
            focus (intro wq hSw; clear hSw; go_simp; try with_reducible rfl)
            try simp only [Act.put, List.setIfInBounds_toArray, List.set_cons_zero, List.set_cons_succ]
            refine takeL (i := 13) (v := ?_) rfl (by kernel_rfl) (by kernel_rfl) (by kernel_rfl) (fun _ _ _ h => h) (Or.inl ⟨by rfl, ?_⟩) hHeld ?_
            rotate_left
            focus (intro wq hSw; have q3 := cellOld hSw HB9.out.2.2.2; clear hSw; go_simp; try with_reducible rfl)
            try simp only [Act.put, List.setIfInBounds_toArray, List.set_cons_zero, List.set_cons_succ]
            refine wpAnyH_ready (rs := [9]) (by kernel_rfl) (by simp) ?_
            refine consL rfl (fun K hK => ?_) AllReadyH.nil
            go_simp
            refine (tries_any p s9 _ (HT.out.P.below hHeld)).mono ?_
            rintro e w' ⟨rfl, rfl⟩
            refine hK.out _ _ hHeld (fun hHeld => ?_)
            clear hK K
            try simp only [Act.put, List.setIfInBounds_toArray, List.set_cons_zero, List.set_cons_succ]
            refine takeL (i := 14) (v := ?_) rfl (by kernel_rfl) (by kernel_rfl) (by kernel_rfl) (fun _ _ _ h => h) (Or.inl ⟨by rfl, ?_⟩) hHeld ?_
            rotate_left
            focus (intro wq hSw; clear hSw; go_simp; try with_reducible rfl)
            try simp only [Act.put, List.setIfInBounds_toArray, List.set_cons_zero, List.set_cons_succ]
            refine takeL (i := 15) (v := ?_) rfl (by kernel_rfl) (by kernel_rfl) (by kernel_rfl) (fun _ _ _ h => h) (Or.inl ⟨by rfl, ?_⟩) hHeld ?_
            rotate_left
            focus (intro wq hSw; clear hSw; go_simp; try with_reducible rfl)
            try simp only [Act.put, List.setIfInBounds_toArray, List.set_cons_zero, List.set_cons_succ]
            refine takeL (i := 16) (v := ?_) rfl (by kernel_rfl) (by kernel_rfl) (by kernel_rfl) (fun _ _ _ h => h) (Or.inl ⟨by rfl, ?_⟩) hHeld ?_
            rotate_left
            focus (intro wq hSw; clear hSw; go_simp; try with_reducible rfl)
            try simp only [Act.put, List.setIfInBounds_toArray, List.set_cons_zero, List.set_cons_succ]
            refine takeL (i := 17) (v := ?_) rfl (by kernel_rfl) (by kernel_rfl) (by kernel_rfl) (fun _ _ _ h => h) (Or.inl ⟨by rfl, ?_⟩) hHeld ?_
            rotate_left
            focus (intro wq hSw; clear hSw; go_simp; try with_reducible rfl)
            try simp only [Act.put, List.setIfInBounds_toArray, List.set_cons_zero, List.set_cons_succ]
            refine takeL (i := 19) (v := ?_) rfl (by kernel_rfl) (by kernel_rfl) (by kernel_rfl) (fun _ _ _ h => h) (Or.inl ⟨by rfl, ?_⟩) hHeld ?_
            rotate_left
            focus (intro wq hSw; clear hSw; go_simp; try with_reducible rfl)
            try simp only [Act.put, List.setIfInBounds_toArray, List.set_cons_zero, List.set_cons_succ]
            refine takeL (i := 20) (v := ?_) rfl (by kernel_rfl) (by kernel_rfl) (by kernel_rfl) (fun _ _ _ h => h) (Or.inl ⟨by rfl, ?_⟩) hHeld ?_
            rotate_left
            focus (intro wq hSw; clear hSw; go_simp; try with_reducible rfl)
            try simp only [Act.put, List.setIfInBounds_toArray, List.set_cons_zero, List.set_cons_succ]
            refine takeL (i := 21) (v := ?_) rfl (by kernel_rfl) (by kernel_rfl) (by kernel_rfl) (fun _ _ _ h => h) (Or.inl ⟨by rfl, ?_⟩) hHeld ?_
            rotate_left
            focus (intro wq hSw; clear hSw; go_simp; try with_reducible rfl)
            try simp only [Act.put, List.setIfInBounds_toArray, List.set_cons_zero, List.set_cons_succ]
            refine takeL (i := 22) (v := ?_) rfl (by kernel_rfl) (by kernel_rfl) (by kernel_rfl) (fun _ _ _ h => h) (Or.inl ⟨by rfl, ?_⟩) hHeld ?_
            rotate_left
            focus (intro wq hSw; have q3 := cellOld hSw HB9.out.2.2.2; clear hSw; go_simp; try with_reducible rfl)
            try simp only [Act.put, List.setIfInBounds_toArray, List.set_cons_zero, List.set_cons_succ]
            refine takeL (i := 23) (v := ?_) rfl (by kernel_rfl) (by kernel_rfl) (by kernel_rfl) (fun _ _ _ h => h) (Or.inl ⟨by rfl, ?_⟩) hHeld ?_
            rotate_left
            focus (intro wq hSw; have hb := HB9.out.2.1; clear hSw; go_simp; try with_reducible rfl)
            try simp only [Act.put, List.setIfInBounds_toArray, List.set_cons_zero, List.set_cons_succ]
            refine wpAnyH_ready (rs := [18]) (by kernel_rfl) (by simp) ?_
            refine consL rfl (fun K hK => ?_) AllReadyH.nil
            go_simp
            refine (locked_any p s9 _ (HT.out.P.below hHeld)).mono ?_
            rintro e w' ⟨rfl, rfl⟩
            rw [HB9.out.1]
            refine hK.out _ _ hHeld (fun hHeld => ?_)
            clear hK K
            try simp only [Act.put, List.setIfInBounds_toArray, List.set_cons_zero, List.set_cons_succ]
            refine takeL (i := 24) (v := ?_) rfl (by kernel_rfl) (by kernel_rfl) (by kernel_rfl) (fun _ _ _ h => h) (Or.inl ⟨by rfl, ?_⟩) hHeld ?_
            rotate_left
            focus (intro wq hSw; clear hSw; go_simp; try with_reducible rfl)
            try simp only [Act.put, List.setIfInBounds_toArray, List.set_cons_zero, List.set_cons_succ]
            refine takeL (i := 25) (v := ?_) rfl (by kernel_rfl) (by kernel_rfl) (by kernel_rfl) (fun _ _ _ h => h) (Or.inl ⟨by rfl, ?_⟩) hHeld ?_
            rotate_left
            focus (intro wq hSw; clear hSw; go_simp; try with_reducible rfl)
            try simp only [Act.put, List.setIfInBounds_toArray, List.set_cons_zero, List.set_cons_succ]
            refine wpAnyH_done (by kernel_rfl) ?_ _
            refine NoPanic.normal ?_
            try simp only [Exit.then]
            have H9 := Lib.hid (HT.out.below hHeld)
            clear hHeld
            go_wp2_with fail
            go_roundw
            case measure => simp [intOf]; omega
            exact ⟨k + 1, p, s9, ds, l1, l2, by omega, by omega, rfl, by simp, H9.out⟩
          · by_cases hk2 : kind = 2
            · subst hk2
              have hp1 := clear_any p s wr HI.out.1.P
              go_wp2_with fail
              refine hsh.mono ?_
              rintro e w' ⟨rfl, rfl⟩
              go_wp2_with fail
              refine hp1.mono ?_
              rintro e w6 ⟨rfl, hP6, hT6'⟩
              have hT6 : Turn [p, d] wr w6 := hT6'.more (by simp)
              obtain ⟨hR6, hE6, hO6⟩ := HI.out.1.half hT6
              have hD6 : DrAt w6 d ds l1 := HI.out.1.D.turn hT6' (by simp; exact pa_ne HI.out.1.D.blk HI.out.1.P.blk (by decide)) (one_noB p HI.out.1.P.noB)
              have hp2 := rclear_any r s w6 hR6
              have H6 := Lib.hid (And.intro hP6 (And.intro hD6 (And.intro hR6 (And.intro hE6 hO6))))
              clear hp1 hP6 hD6 hT6 hT6' hR6 hE6 hO6
              go_wp2_with fail
              refine hp2.mono ?_
              rintro e w7 ⟨rfl, hR7, hT7⟩
              have hE7 : ErAt w7 e5 ds l2 := H6.out.2.2.2.1.turn hT7 (by simp; exact pa_ne H6.out.2.2.2.1.blk H6.out.2.2.1.blk (by decide)) (one_noB r H6.out.2.2.1.noB)
              have hI7 := HI.out.1.whole H6.out.1 H6.out.2.1 H6.out.2.2.1 H6.out.2.2.2.1 H6.out.2.2.2.2 (hT7.more (by simp)) hR7 hE7 PS.ok_none (by omega) (by omega) (by omega) (by omega)
              clear hp2 hR7 hE7 hT7
              obtain ⟨s9, hs9⟩ : ∃ s9, PS.none = s9 := ⟨_, rfl⟩
              rw [hs9] at hI7
              clear hs9
              obtain ⟨b9, hb9⟩ : ∃ b, decide (3 ≤ s9.tries) = b := ⟨_, rfl⟩
              have hb9i : decide ((3 : Int) ≤ (s9.tries : Int)) = b9 := by rw [← hb9]; congr 1; exact propext (by omega)
              have HT := Lib.hid hI7
              have HB9 := Lib.hid (And.intro hb9 (And.intro hb9i hI7.R.cells))
              clear hI7 hb9 hb9i
              go_wp2_with fail
              refine region_old (by kernel_rfl) (fun wd hHeld hSz => ?_)
              have HSz := Lib.hid hSz
              clear hSz
              refine takeL (i := 0) (v := ?_) rfl (by kernel_rfl) (by kernel_rfl) (by kernel_rfl) (fun _ _ _ h => h) (Or.inl ⟨by rfl, ?_⟩) hHeld ?_
              rotate_left
              focus (intro wq hSw; clear hSw; go_simp; try with_reducible rfl)
              try simp only [Act.put, List.setIfInBounds_toArray, List.set_cons_zero, List.set_cons_succ]
              refine takeL (i := 2) (v := ?_) rfl (by kernel_rfl) (by kernel_rfl) (by kernel_rfl) (fun _ _ _ h => h) (Or.inl ⟨by rfl, ?_⟩) hHeld ?_
              rotate_left
              focus (intro wq hSw; clear hSw; go_simp; try with_reducible rfl)
              try simp only [Act.put, List.setIfInBounds_toArray, List.set_cons_zero, List.set_cons_succ]
              refine takeL (i := 3) (v := ?_) rfl (by kernel_rfl) (by kernel_rfl) (by kernel_rfl) (fun _ _ _ h => h) (Or.inl ⟨by rfl, ?_⟩) hHeld ?_
              rotate_left
              focus (intro wq hSw; clear hSw; go_simp; try with_reducible rfl)
              try simp only [Act.put, List.setIfInBounds_toArray, List.set_cons_zero, List.set_cons_succ]
              refine takeL (i := 4) (v := ?_) rfl (by kernel_rfl) (by kernel_rfl) (by kernel_rfl) (fun _ _ _ h => h) (Or.inl ⟨by rfl, ?_⟩) hHeld ?_
              rotate_left
              focus (intro wq hSw; clear hSw; go_simp; try with_reducible rfl)
              try simp only [Act.put, List.setIfInBounds_toArray, List.set_cons_zero, List.set_cons_succ]
              refine takeL (i := 5) (v := ?_) rfl (by kernel_rfl) (by kernel_rfl) (by kernel_rfl) (fun _ _ _ h => h) (Or.inl ⟨by rfl, ?_⟩) hHeld ?_
              rotate_left
              focus (intro wq hSw; have q0 := cellOld hSw HB9.out.2.2.1; clear hSw; go_simp; try with_reducible rfl)
              try simp only [Act.put, List.setIfInBounds_toArray, List.set_cons_zero, List.set_cons_succ]
              refine wpAnyH_ready (rs := [1]) (by kernel_rfl) (by simp) ?_
              refine consL rfl (fun K hK => ?_) AllReadyH.nil
              go_simp
              refine (pis_any p s9 _ (HT.out.P.below hHeld)).mono ?_
              rintro e w' ⟨rfl, rfl⟩
              refine hK.out _ _ hHeld (fun hHeld => ?_)
              clear hK K
              try simp only [Act.put, List.setIfInBounds_toArray, List.set_cons_zero, List.set_cons_succ]
              refine takeL (i := 6) (v := ?_) rfl (by kernel_rfl) (by kernel_rfl) (by kernel_rfl) (fun _ _ _ h => h) (Or.inl ⟨by rfl, ?_⟩) hHeld ?_
              rotate_left
              focus (intro wq hSw; clear hSw; go_simp; try with_reducible rfl)
              try simp only [Act.put, List.setIfInBounds_toArray, List.set_cons_zero, List.set_cons_succ]
              refine takeL (i := 7) (v := ?_) rfl (by kernel_rfl) (by kernel_rfl) (by kernel_rfl) (fun _ _ _ h => h) (Or.inl ⟨by rfl, ?_⟩) hHeld ?_
              rotate_left
              focus (intro wq hSw; clear hSw; go_simp; try with_reducible rfl)
              try simp only [Act.put, List.setIfInBounds_toArray, List.set_cons_zero, List.set_cons_succ]
              refine takeL (i := 8) (v := ?_) rfl (by kernel_rfl) (by kernel_rfl) (by kernel_rfl) (fun _ _ _ h => h) (Or.inl ⟨by rfl, ?_⟩) hHeld ?_
              rotate_left
              focus (intro wq hSw; clear hSw; go_simp; try with_reducible rfl)
              try simp only [Act.put, List.setIfInBounds_toArray, List.set_cons_zero, List.set_cons_succ]
              refine takeL (i := 10) (v := ?_) rfl (by kernel_rfl) (by kernel_rfl) (by kernel_rfl) (fun _ _ _ h => h) (Or.inl ⟨by rfl, ?_⟩) hHeld ?_
              rotate_left
              focus (intro wq hSw; clear hSw; go_simp; try with_reducible rfl)
              try simp only [Act.put, List.setIfInBounds_toArray, List.set_cons_zero, List.set_cons_succ]
              refine takeL (i := 11) (v := ?_) rfl (by kernel_rfl) (by kernel_rfl) (by kernel_rfl) (fun _ _ _ h => h) (Or.inl ⟨by rfl, ?_⟩) hHeld ?_
              rotate_left
              focus (intro wq hSw; clear hSw; go_simp; try with_reducible rfl)
              try simp only [Act.put, List.setIfInBounds_toArray, List.set_cons_zero, List.set_cons_succ]
              refine takeL (i := 12) (v := ?_) rfl (by kernel_rfl) (by kernel_rfl) (by kernel_rfl) (fun _ _ _ h => h) (Or.inl ⟨by rfl, ?_⟩) hHeld ?_
              rotate_left
              focus (intro wq hSw; clear hSw; go_simp; try with_reducible rfl)
              try simp only [Act.put, List.setIfInBounds_toArray, List.set_cons_zero, List.set_cons_succ]
              refine takeL (i := 13) (v := ?_) rfl (by kernel_rfl) (by kernel_rfl) (by kernel_rfl) (fun _ _ _ h => h) (Or.inl ⟨by rfl, ?_⟩) hHeld ?_
              rotate_left
              focus (intro wq hSw; have q3 := cellOld hSw HB9.out.2.2.2; clear hSw; go_simp; try with_reducible rfl)
              try simp only [Act.put, List.setIfInBounds_toArray, List.set_cons_zero, List.set_cons_succ]
              refine wpAnyH_ready (rs := [9]) (by kernel_rfl) (by simp) ?_
              refine consL rfl (fun K hK => ?_) AllReadyH.nil
              go_simp
              refine (tries_any p s9 _ (HT.out.P.below hHeld)).mono ?_
              rintro e w' ⟨rfl, rfl⟩
              refine hK.out _ _ hHeld (fun hHeld => ?_)
              clear hK K
              try simp only [Act.put, List.setIfInBounds_toArray, List.set_cons_zero, List.set_cons_succ]
              refine takeL (i := 14) (v := ?_) rfl (by kernel_rfl) (by kernel_rfl) (by kernel_rfl) (fun _ _ _ h => h) (Or.inl ⟨by rfl, ?_⟩) hHeld ?_
              rotate_left
              focus (intro wq hSw; clear hSw; go_simp; try with_reducible rfl)
              try simp only [Act.put, List.setIfInBounds_toArray, List.set_cons_zero, List.set_cons_succ]
              refine takeL (i := 15) (v := ?_) rfl (by kernel_rfl) (by kernel_rfl) (by kernel_rfl) (fun _ _ _ h => h) (Or.inl ⟨by rfl, ?_⟩) hHeld ?_
              rotate_left
              focus (intro wq hSw; clear hSw; go_simp; try with_reducible rfl)
              try simp only [Act.put, List.setIfInBounds_toArray, List.set_cons_zero, List.set_cons_succ]
              refine takeL (i := 16) (v := ?_) rfl (by kernel_rfl) (by kernel_rfl) (by kernel_rfl) (fun _ _ _ h => h) (Or.inl ⟨by rfl, ?_⟩) hHeld ?_
              rotate_left
              focus (intro wq hSw; clear hSw; go_simp; try with_reducible rfl)
              try simp only [Act.put, List.setIfInBounds_toArray, List.set_cons_zero, List.set_cons_succ]
              refine takeL (i := 17) (v := ?_) rfl (by kernel_rfl) (by kernel_rfl) (by kernel_rfl) (fun _ _ _ h => h) (Or.inl ⟨by rfl, ?_⟩) hHeld ?_
              rotate_left
              focus (intro wq hSw; clear hSw; go_simp; try with_reducible rfl)
              try simp only [Act.put, List.setIfInBounds_toArray, List.set_cons_zero, List.set_cons_succ]
              refine takeL (i := 19) (v := ?_) rfl (by kernel_rfl) (by kernel_rfl) (by kernel_rfl) (fun _ _ _ h => h) (Or.inl ⟨by rfl, ?_⟩) hHeld ?_
              rotate_left
              focus (intro wq hSw; clear hSw; go_simp; try with_reducible rfl)
              try simp only [Act.put, List.setIfInBounds_toArray, List.set_cons_zero, List.set_cons_succ]
              refine takeL (i := 20) (v := ?_) rfl (by kernel_rfl) (by kernel_rfl) (by kernel_rfl) (fun _ _ _ h => h) (Or.inl ⟨by rfl, ?_⟩) hHeld ?_
              rotate_left
              focus (intro wq hSw; clear hSw; go_simp; try with_reducible rfl)
              try simp only [Act.put, List.setIfInBounds_toArray, List.set_cons_zero, List.set_cons_succ]
              refine takeL (i := 21) (v := ?_) rfl (by kernel_rfl) (by kernel_rfl) (by kernel_rfl) (fun _ _ _ h => h) (Or.inl ⟨by rfl, ?_⟩) hHeld ?_
              rotate_left
              focus (intro wq hSw; clear hSw; go_simp; try with_reducible rfl)
              try simp only [Act.put, List.setIfInBounds_toArray, List.set_cons_zero, List.set_cons_succ]
              refine takeL (i := 22) (v := ?_) rfl (by kernel_rfl) (by kernel_rfl) (by kernel_rfl) (fun _ _ _ h => h) (Or.inl ⟨by rfl, ?_⟩) hHeld ?_
              rotate_left
              focus (intro wq hSw; have q3 := cellOld hSw HB9.out.2.2.2; clear hSw; go_simp; try with_reducible rfl)
              try simp only [Act.put, List.setIfInBounds_toArray, List.set_cons_zero, List.set_cons_succ]
              refine takeL (i := 23) (v := ?_) rfl (by kernel_rfl) (by kernel_rfl) (by kernel_rfl) (fun _ _ _ h => h) (Or.inl ⟨by rfl, ?_⟩) hHeld ?_
              rotate_left
              focus (intro wq hSw; have hb := HB9.out.2.1; clear hSw; go_simp; try with_reducible rfl)
              try simp only [Act.put, List.setIfInBounds_toArray, List.set_cons_zero, List.set_cons_succ]
              refine wpAnyH_ready (rs := [18]) (by kernel_rfl) (by simp) ?_
              refine consL rfl (fun K hK => ?_) AllReadyH.nil
              go_simp
              refine (locked_any p s9 _ (HT.out.P.below hHeld)).mono ?_
              rintro e w' ⟨rfl, rfl⟩
              rw [HB9.out.1]
              refine hK.out _ _ hHeld (fun hHeld => ?_)
              clear hK K
              try simp only [Act.put, List.setIfInBounds_toArray, List.set_cons_zero, List.set_cons_succ]
              refine takeL (i := 24) (v := ?_) rfl (by kernel_rfl) (by kernel_rfl) (by kernel_rfl) (fun _ _ _ h => h) (Or.inl ⟨by rfl, ?_⟩) hHeld ?_
              rotate_left
              focus (intro wq hSw; clear hSw; go_simp; try with_reducible rfl)
              try simp only [Act.put, List.setIfInBounds_toArray, List.set_cons_zero, List.set_cons_succ]
              refine takeL (i := 25) (v := ?_) rfl (by kernel_rfl) (by kernel_rfl) (by kernel_rfl) (fun _ _ _ h => h) (Or.inl ⟨by rfl, ?_⟩) hHeld ?_
              rotate_left
              focus (intro wq hSw; clear hSw; go_simp; try with_reducible rfl)
              try simp only [Act.put, List.setIfInBounds_toArray, List.set_cons_zero, List.set_cons_succ]
              refine wpAnyH_done (by kernel_rfl) ?_ _
              refine NoPanic.normal ?_
              try simp only [Exit.then]
              have H9 := Lib.hid (HT.out.below hHeld)
              clear hHeld
              go_wp2_with fail
              go_roundw
              case measure => simp [intOf]; omega
              exact ⟨k + 1, p, s9, ds, l1, l2, by omega, by omega, rfl, by simp, H9.out⟩
            · have hp1 := enc_any p s wr HI.out.1.P HI.out.1.ok
              obtain ⟨L, hL⟩ : ∃ L, s.enc = L := ⟨_, rfl⟩
              rw [hL] at hp1
              have hln : L.length ≤ 50 := by
                rw [← hL]
                cases hs : s.set with
                | true => rw [PS.enc_len HI.out.1.ok hs]; omega
                | false => unfold PS.enc; rw [if_pos hs]; simp
              have HLn := Lib.hid (And.intro hL hln)
              clear hln
              go_wp2_with fail
              refine hsh.mono ?_
              rintro e w' ⟨rfl, rfl⟩
              go_wp2_with fail
              refine hp1.mono ?_
              rintro e w7 ⟨A7, n7, c7, rfl, hE7, hO7⟩
              have HI2 := Lib.hid (And.intro hE7.rd (And.intro (HI.out.1.below hO7) (And.intro hE7.len hL)))
              clear hp1 hE7 hO7 hL
              go_wp2_with fail
              refine region_old (by kernel_rfl) (fun wd hHeld hSz => ?_)
              have HSz := Lib.hid hSz
              clear hSz
              refine takeL (i := 0) (v := ?_) rfl (by kernel_rfl) (by kernel_rfl) (by kernel_rfl) (fun _ _ _ h => h) (Or.inl ⟨by rfl, ?_⟩) hHeld ?_
              rotate_left
              focus (intro wq hSw; clear hSw; go_simp; try with_reducible rfl)
              try simp only [Act.put, List.setIfInBounds_toArray, List.set_cons_zero, List.set_cons_succ]
              refine takeL (i := 1) (v := ?_) rfl (by kernel_rfl) (by kernel_rfl) (by kernel_rfl) (fun _ _ _ h => h) (Or.inl ⟨by rfl, ?_⟩) hHeld ?_
              rotate_left
              focus (intro wq hSw; have hRun := (HI2.out.1.below hSw).str; clear hSw; go_simp; try with_reducible rfl)
              try simp only [Act.put, List.setIfInBounds_toArray, List.set_cons_zero, List.set_cons_succ]
              refine takeL (i := 2) (v := ?_) rfl (by kernel_rfl) (by kernel_rfl) (by kernel_rfl) (fun _ _ _ h => h) (Or.inl ⟨by rfl, ?_⟩) hHeld ?_
              rotate_left
              focus (intro wq hSw; clear hSw; go_simp; try with_reducible rfl)
              try simp only [Act.put, List.setIfInBounds_toArray, List.set_cons_zero, List.set_cons_succ]
              refine wpAnyH_ready (rs := [3]) (by kernel_rfl) (by simp) ?_
              refine consL rfl (fun K hK => ?_) AllReadyH.nil
              go_simp
              refine (renc_any r s wd (HI2.out.2.1.R.below hHeld) HI2.out.2.1.ok).mono ?_
              rintro e w8 ⟨A8, n8, c8, rfl, hE8, hO8⟩
              rw [HI2.out.2.2.2] at hE8
              have hH8 := Old.trans hHeld hO8
              refine hK.out _ _ hH8 (fun hHeld => ?_)
              clear hK K
              try simp only [Act.put, List.setIfInBounds_toArray, List.set_cons_zero, List.set_cons_succ]
              refine wpAnyH_old (w1 := w8) hH8 (fun hHeld => ?_) (Old.refl _)
              refine takeL (i := 4) (v := ?_) rfl (by kernel_rfl) (by kernel_rfl) (by kernel_rfl) (fun _ _ _ h => h) (Or.inl ⟨by rfl, ?_⟩) hHeld ?_
              rotate_left
              focus (intro wq hSw; have hRun := hE8.str_below hSw; clear hSw; go_simp; try with_reducible rfl)
              try simp only [Act.put, List.setIfInBounds_toArray, List.set_cons_zero, List.set_cons_succ]
              refine takeL (i := 5) (v := ?_) rfl (by kernel_rfl) (by kernel_rfl) (by kernel_rfl) (fun _ _ _ h => h) (Or.inl ⟨by rfl, ?_⟩) hHeld ?_
              rotate_left
              focus (intro wq hSw; clear hSw; go_simp; try with_reducible rfl)
              try simp only [Act.put, List.setIfInBounds_toArray, List.set_cons_zero, List.set_cons_succ]
              refine wpAnyH_done (by kernel_rfl) ?_ _
              refine NoPanic.normal ?_
              try simp only [Exit.then]
              have hW9 := Old.trans hH8 hHeld
              clear hH8 hO8 hHeld hE8
              go_wp2_with fail
              have hdc := dec_any A7 n7 c7 L _ (HI2.out.1.below hW9) (by have h1 := HI2.out.2.2.1; have h2 := HLn.out.2; omega)
              rw [← HI2.out.2.2.2, PS.dec_enc HI2.out.2.1.ok] at hdc
              have HW9 := Lib.hid hW9
              clear hW9
              refine hdc.mono ?_
              rintro e w9 ⟨q, rfl, hq9, hqw, hO9⟩
              have hI7 := HI2.out.2.1.back (Old.trans HW9.out hO9) hq9 (Nat.le_trans HI2.out.2.1.O.size (Nat.le_trans HW9.out.size hqw))
              clear hdc hq9 hqw hO9
              obtain ⟨s9, hs9⟩ : ∃ s9, (if s.set = true then s else PS.none) = s9 := ⟨_, rfl⟩
              rw [hs9] at hI7
              clear hs9
              obtain ⟨b9, hb9⟩ : ∃ b, decide (3 ≤ s9.tries) = b := ⟨_, rfl⟩
              have hb9i : decide ((3 : Int) ≤ (s9.tries : Int)) = b9 := by rw [← hb9]; congr 1; exact propext (by omega)
              have HT := Lib.hid hI7
              have HB9 := Lib.hid (And.intro hb9 (And.intro hb9i hI7.R.cells))
              clear hI7 hb9 hb9i
              go_wp2_with fail
              refine region_old (by kernel_rfl) (fun wd hHeld hSz => ?_)
              have HSz := Lib.hid hSz
              clear hSz
              refine takeL (i := 0) (v := ?_) rfl (by kernel_rfl) (by kernel_rfl) (by kernel_rfl) (fun _ _ _ h => h) (Or.inl ⟨by rfl, ?_⟩) hHeld ?_
              rotate_left
              focus (intro wq hSw; clear hSw; go_simp; try with_reducible rfl)
              try simp only [Act.put, List.setIfInBounds_toArray, List.set_cons_zero, List.set_cons_succ]
              refine takeL (i := 2) (v := ?_) rfl (by kernel_rfl) (by kernel_rfl) (by kernel_rfl) (fun _ _ _ h => h) (Or.inl ⟨by rfl, ?_⟩) hHeld ?_
              rotate_left
              focus (intro wq hSw; clear hSw; go_simp; try with_reducible rfl)
              try simp only [Act.put, List.setIfInBounds_toArray, List.set_cons_zero, List.set_cons_succ]
              refine takeL (i := 3) (v := ?_) rfl (by kernel_rfl) (by kernel_rfl) (by kernel_rfl) (fun _ _ _ h => h) (Or.inl ⟨by rfl, ?_⟩) hHeld ?_
              rotate_left
              focus (intro wq hSw; clear hSw; go_simp; try with_reducible rfl)
              try simp only [Act.put, List.setIfInBounds_toArray, List.set_cons_zero, List.set_cons_succ]
              refine takeL (i := 4) (v := ?_) rfl (by kernel_rfl) (by kernel_rfl) (by kernel_rfl) (fun _ _ _ h => h) (Or.inl ⟨by rfl, ?_⟩) hHeld ?_
              rotate_left
              focus (intro wq hSw; clear hSw; go_simp; try with_reducible rfl)
              try simp only [Act.put, List.setIfInBounds_toArray, List.set_cons_zero, List.set_cons_succ]
              refine takeL (i := 5) (v := ?_) rfl (by kernel_rfl) (by kernel_rfl) (by kernel_rfl) (fun _ _ _ h => h) (Or.inl ⟨by rfl, ?_⟩) hHeld ?_
              rotate_left
              focus (intro wq hSw; have q0 := cellOld hSw HB9.out.2.2.1; clear hSw; go_simp; try with_reducible rfl)
              try simp only [Act.put, List.setIfInBounds_toArray, List.set_cons_zero, List.set_cons_succ]
              refine wpAnyH_ready (rs := [1]) (by kernel_rfl) (by simp) ?_
              refine consL rfl (fun K hK => ?_) AllReadyH.nil
              go_simp
              refine (pis_any q s9 _ (HT.out.P.below hHeld)).mono ?_
              rintro e w' ⟨rfl, rfl⟩
              refine hK.out _ _ hHeld (fun hHeld => ?_)
              clear hK K
              try simp only [Act.put, List.setIfInBounds_toArray, List.set_cons_zero, List.set_cons_succ]
              refine takeL (i := 6) (v := ?_) rfl (by kernel_rfl) (by kernel_rfl) (by kernel_rfl) (fun _ _ _ h => h) (Or.inl ⟨by rfl, ?_⟩) hHeld ?_
              rotate_left
              focus (intro wq hSw; clear hSw; go_simp; try with_reducible rfl)
              try simp only [Act.put, List.setIfInBounds_toArray, List.set_cons_zero, List.set_cons_succ]
              refine takeL (i := 7) (v := ?_) rfl (by kernel_rfl) (by kernel_rfl) (by kernel_rfl) (fun _ _ _ h => h) (Or.inl ⟨by rfl, ?_⟩) hHeld ?_
              rotate_left
              focus (intro wq hSw; clear hSw; go_simp; try with_reducible rfl)
              try simp only [Act.put, List.setIfInBounds_toArray, List.set_cons_zero, List.set_cons_succ]
              refine takeL (i := 8) (v := ?_) rfl (by kernel_rfl) (by kernel_rfl) (by kernel_rfl) (fun _ _ _ h => h) (Or.inl ⟨by rfl, ?_⟩) hHeld ?_
              rotate_left
              focus (intro wq hSw; clear hSw; go_simp; try with_reducible rfl)
              try simp only [Act.put, List.setIfInBounds_toArray, List.set_cons_zero, List.set_cons_succ]
              refine takeL (i := 10) (v := ?_) rfl (by kernel_rfl) (by kernel_rfl) (by kernel_rfl) (fun _ _ _ h => h) (Or.inl ⟨by rfl, ?_⟩) hHeld ?_
              rotate_left
              focus (intro wq hSw; clear hSw; go_simp; try with_reducible rfl)
              try simp only [Act.put, List.setIfInBounds_toArray, List.set_cons_zero, List.set_cons_succ]
              refine takeL (i := 11) (v := ?_) rfl (by kernel_rfl) (by kernel_rfl) (by kernel_rfl) (fun _ _ _ h => h) (Or.inl ⟨by rfl, ?_⟩) hHeld ?_
              rotate_left
              focus (intro wq hSw; clear hSw; go_simp; try with_reducible rfl)
              try simp only [Act.put, List.setIfInBounds_toArray, List.set_cons_zero, List.set_cons_succ]
              refine takeL (i := 12) (v := ?_) rfl (by kernel_rfl) (by kernel_rfl) (by kernel_rfl) (fun _ _ _ h => h) (Or.inl ⟨by rfl, ?_⟩) hHeld ?_
              rotate_left
              focus (intro wq hSw; clear hSw; go_simp; try with_reducible rfl)
              try simp only [Act.put, List.setIfInBounds_toArray, List.set_cons_zero, List.set_cons_succ]
              refine takeL (i := 13) (v := ?_) rfl (by kernel_rfl) (by kernel_rfl) (by kernel_rfl) (fun _ _ _ h => h) (Or.inl ⟨by rfl, ?_⟩) hHeld ?_
              rotate_left
              focus (intro wq hSw; have q3 := cellOld hSw HB9.out.2.2.2; clear hSw; go_simp; try with_reducible rfl)
              try simp only [Act.put, List.setIfInBounds_toArray, List.set_cons_zero, List.set_cons_succ]
              refine wpAnyH_ready (rs := [9]) (by kernel_rfl) (by simp) ?_
              refine consL rfl (fun K hK => ?_) AllReadyH.nil
              go_simp
              refine (tries_any q s9 _ (HT.out.P.below hHeld)).mono ?_
              rintro e w' ⟨rfl, rfl⟩
              refine hK.out _ _ hHeld (fun hHeld => ?_)
              clear hK K
              try simp only [Act.put, List.setIfInBounds_toArray, List.set_cons_zero, List.set_cons_succ]
              refine takeL (i := 14) (v := ?_) rfl (by kernel_rfl) (by kernel_rfl) (by kernel_rfl) (fun _ _ _ h => h) (Or.inl ⟨by rfl, ?_⟩) hHeld ?_
              rotate_left
              focus (intro wq hSw; clear hSw; go_simp; try with_reducible rfl)
              try simp only [Act.put, List.setIfInBounds_toArray, List.set_cons_zero, List.set_cons_succ]
              refine takeL (i := 15) (v := ?_) rfl (by kernel_rfl) (by kernel_rfl) (by kernel_rfl) (fun _ _ _ h => h) (Or.inl ⟨by rfl, ?_⟩) hHeld ?_
              rotate_left
              focus (intro wq hSw; clear hSw; go_simp; try with_reducible rfl)
              try simp only [Act.put, List.setIfInBounds_toArray, List.set_cons_zero, List.set_cons_succ]
              refine takeL (i := 16) (v := ?_) rfl (by kernel_rfl) (by kernel_rfl) (by kernel_rfl) (fun _ _ _ h => h) (Or.inl ⟨by rfl, ?_⟩) hHeld ?_
              rotate_left
              focus (intro wq hSw; clear hSw; go_simp; try with_reducible rfl)
              try simp only [Act.put, List.setIfInBounds_toArray, List.set_cons_zero, List.set_cons_succ]
              refine takeL (i := 17) (v := ?_) rfl (by kernel_rfl) (by kernel_rfl) (by kernel_rfl) (fun _ _ _ h => h) (Or.inl ⟨by rfl, ?_⟩) hHeld ?_
              rotate_left
              focus (intro wq hSw; clear hSw; go_simp; try with_reducible rfl)
              try simp only [Act.put, List.setIfInBounds_toArray, List.set_cons_zero, List.set_cons_succ]
              refine takeL (i := 19) (v := ?_) rfl (by kernel_rfl) (by kernel_rfl) (by kernel_rfl) (fun _ _ _ h => h) (Or.inl ⟨by rfl, ?_⟩) hHeld ?_
              rotate_left
              focus (intro wq hSw; clear hSw; go_simp; try with_reducible rfl)
              try simp only [Act.put, List.setIfInBounds_toArray, List.set_cons_zero, List.set_cons_succ]
              refine takeL (i := 20) (v := ?_) rfl (by kernel_rfl) (by kernel_rfl) (by kernel_rfl) (fun _ _ _ h => h) (Or.inl ⟨by rfl, ?_⟩) hHeld ?_
              rotate_left
              focus (intro wq hSw; clear hSw; go_simp; try with_reducible rfl)
              try simp only [Act.put, List.setIfInBounds_toArray, List.set_cons_zero, List.set_cons_succ]
              refine takeL (i := 21) (v := ?_) rfl (by kernel_rfl) (by kernel_rfl) (by kernel_rfl) (fun _ _ _ h => h) (Or.inl ⟨by rfl, ?_⟩) hHeld ?_
              rotate_left
              focus (intro wq hSw; clear hSw; go_simp; try with_reducible rfl)
              try simp only [Act.put, List.setIfInBounds_toArray, List.set_cons_zero, List.set_cons_succ]
              refine takeL (i := 22) (v := ?_) rfl (by kernel_rfl) (by kernel_rfl) (by kernel_rfl) (fun _ _ _ h => h) (Or.inl ⟨by rfl, ?_⟩) hHeld ?_
              rotate_left
              focus (intro wq hSw; have q3 := cellOld hSw HB9.out.2.2.2; clear hSw; go_simp; try with_reducible rfl)
              try simp only [Act.put, List.setIfInBounds_toArray, List.set_cons_zero, List.set_cons_succ]
              refine takeL (i := 23) (v := ?_) rfl (by kernel_rfl) (by kernel_rfl) (by kernel_rfl) (fun _ _ _ h => h) (Or.inl ⟨by rfl, ?_⟩) hHeld ?_
              rotate_left
              focus (intro wq hSw; have hb := HB9.out.2.1; clear hSw; go_simp; try with_reducible rfl)
              try simp only [Act.put, List.setIfInBounds_toArray, List.set_cons_zero, List.set_cons_succ]
              refine wpAnyH_ready (rs := [18]) (by kernel_rfl) (by simp) ?_
              refine consL rfl (fun K hK => ?_) AllReadyH.nil
              go_simp
              refine (locked_any q s9 _ (HT.out.P.below hHeld)).mono ?_
              rintro e w' ⟨rfl, rfl⟩
              rw [HB9.out.1]
              refine hK.out _ _ hHeld (fun hHeld => ?_)
              clear hK K
              try simp only [Act.put, List.setIfInBounds_toArray, List.set_cons_zero, List.set_cons_succ]
              refine takeL (i := 24) (v := ?_) rfl (by kernel_rfl) (by kernel_rfl) (by kernel_rfl) (fun _ _ _ h => h) (Or.inl ⟨by rfl, ?_⟩) hHeld ?_
              rotate_left
              focus (intro wq hSw; clear hSw; go_simp; try with_reducible rfl)
              try simp only [Act.put, List.setIfInBounds_toArray, List.set_cons_zero, List.set_cons_succ]
              refine takeL (i := 25) (v := ?_) rfl (by kernel_rfl) (by kernel_rfl) (by kernel_rfl) (fun _ _ _ h => h) (Or.inl ⟨by rfl, ?_⟩) hHeld ?_
              rotate_left
              focus (intro wq hSw; clear hSw; go_simp; try with_reducible rfl)
              try simp only [Act.put, List.setIfInBounds_toArray, List.set_cons_zero, List.set_cons_succ]
              refine wpAnyH_done (by kernel_rfl) ?_ _
              refine NoPanic.normal ?_
              try simp only [Exit.then]
              have H9 := Lib.hid (HT.out.below hHeld)
              clear hHeld
              go_wp2_with fail
              go_roundw
              case measure => simp [intOf]; omega
              exact ⟨k + 1, q, s9, ds, l1, l2, by omega, by omega, rfl, by simp, H9.out⟩
      · obtain rfl : k = 14 := by omega
        have hl14d : decide (((14 : Nat) : Int) < 14) = false := by decide
        have HI := Lib.hid hI.O
        clear hI
        go_wp2_with fail
        go_ret
        exact ⟨rfl, HI.out⟩
    · obtain rfl : k = N := by omega
      have hlti : ¬ (k : Int) < k := by omega
      have hltd : decide ((k : Int) < (k : Int)) = false := decide_eq_false hlti
      have HI := Lib.hid hI.O
      clear hI
      go_wp2_with fail
      go_ret
      exact ⟨rfl, HI.out⟩
end Go.Proofs.YtdgjjmaiibafhaaDoor
