/-
  Sessions: closes.
-/
import Derived.Test.YtnpncbpbeikcaaaSes3
namespace Go.Proofs.Ytnpncbpbeikcaaa
open Go.RowKit Go.Maps

def PT.closed (T : PT) (q : PS → Bool) : PT := ⟨T.l.filter (fun x => !q x), T.last, fun a b => if (T.l.filter (fun x => !q x)).any (fun x => decide (x.c = a ∧ x.s = b)) = true then T.who a b else none, T.n⟩
theorem MapIs.congr {W : World} {b n : Nat} {f g : Who} (h : MapIs W b n f) (hfg : ∀ x y, wf64 x → wf64 y → f x y = g x y) : MapIs W b n g := by
  obtain ⟨D, h1, h2⟩ := h
  exact ⟨D, h1, fun x y hx hy => by rw [← hfg x y hx hy]; exact h2 x y hx hy⟩
theorem TbAt.keep {W W' : World} {B p : Nat} {A : Option Addr} {m c mb : Nat} {T : PT} (h : TbAt W B p A m c mb T) {S : List Nat} (ht : Turn S W W') (hp : p ∉ S) (hm : mb ∉ S) (hr : ∀ g, (Value.slice A m c).ownBlock = some g → g ∉ S) : TbAt W' B p A m c mb T :=
  ⟨h.blk.turn ht hp, h.row.turn ht hr, h.map.keep (ht.block _ h.map.lt hm), h.lp, h.lm, h.small, h.wf⟩
theorem sk_self (x y : Int) : (kLit x y).sameKey (kLit x y) = true := WideAt.sameKey_self (kLit_key _ _)
theorem closes_nil (K : Value) (w : World) : Calls Try.prog 30 #[.pointer none, K] w fun e w' => e = .returned (.slice none 0 0) ∧ w = w' := by
  go_enter Try.func30, Try.ntmps30
  go_wp2
  go_ret
  exact ⟨rfl, rfl⟩
theorem filter_take_t (l : List PS) (p : PS → Bool) (k : Nat) (x : PS) (h : l[k]? = some x) (hp : p x = true) : (l.take (k + 1)).filter p = (l.take k).filter p ++ [x] := by
  rw [List.take_add_one, h]; simp [hp]
theorem filter_take_f (l : List PS) (p : PS → Bool) (k : Nat) (x : PS) (h : l[k]? = some x) (hp : p x = false) : (l.take (k + 1)).filter p = (l.take k).filter p := by
  rw [List.take_add_one, h]; simp [hp]
theorem filter_len (l : List PS) (p : PS → Bool) (k : Nat) : ((l.take k).filter p).length ≤ k := Nat.le_trans (List.length_filter_le _ _) (List.length_take_le _ _)
/-- What stands between two rounds of the second loop. -/
structure ClI (w0 : World) (B p : Nat) (A : Option Addr) (n c mb r : Nat) (T : PT) (left : Lit → Bool) (cnt : Nat) (g : Who) (S : List Nat) (vg : Value) (gone : List Int) (wr : World) : Prop where
  rng : MRange wr mb r T.n g left cnt
  eq : ∀ a b, wf64 a → wf64 b → g a b = if (T.l.any (fun x => decide (x.c = a ∧ x.s = b)) || left (kLit a b)) = true then T.who a b else none
  tab : TbAt wr B p A n c mb ⟨T.l, T.last, g, T.n⟩
  turn : Turn S w0 wr
  own : OwnE Try.eI wr w0.heap.size vg gone
  new : w0.heap.size ≤ r
  l6 : ∀ g, (Value.slice A n c).ownBlock = some g → g < r
  l5 : ∀ g, vg.ownBlock = some g → g < r
set_option maxRecDepth 100000 in
set_option maxHeartbeats 4000000 in
theorem closes_any (B p : Nat) (S : List Nat) (T : PT) (kf : Nat) (caps : Array Value) (q : PS → Bool) (w : World) (h : Tb w B p S T) (hA : Asked kf caps q w) :
    Calls Try.prog 30 #[.pointer (some ⟨p, 0, none⟩), .func (.func kf) #[] caps] w fun e w' => ∃ A m c S', e = .returned (.slice A m c) ∧ OwnE Try.eI w' w.heap.size (.slice A m c) ((T.l.filter q).map PS.h) ∧ Tb w' B p S' (T.closed q) ∧ Turn S w w' ∧ InOr S S' w.heap.size := by
  obtain ⟨A, m, c, mb, hT, rfl⟩ := h
  have hm : m ≤ 1000 := by rw [hT.row.len]; exact hT.small
  have hml := hT.row.rd.1
  obtain ⟨q0, q1, q2⟩ := hT.cells
  have hEN0 := Lib.hid hA.enters
  have hsz := hT.blk.lt
  have H := Lib.hid (And.intro hT (And.intro hA (And.intro hml hsz)))
  clear hA hT hml hsz q1 q2
  go_enter Try.func30, Try.ntmps30
  go_wp2_with fail
  go_loopw [5, 6, 17] (fun v5 v6 kk wr => ∃ k : Nat, k ≤ m ∧ kk = .int .i64 (k : Int) ∧ ∃ A5 n5 c5 A6 n6 c6, v5 = .slice A5 n5 c5 ∧ v6 = .slice A6 n6 c6 ∧ OwnE Try.eI wr w.heap.size (.slice A5 n5 c5) (((T.l.take k).filter q).map PS.h) ∧ OwnE Try.eS wr w.heap.size (.slice A6 n6 c6) ((T.l.take k).filter (fun x => !q x)) ∧ Below w.heap.size w wr) (fun _ _ kk _ => m - (intOf kk).toNat)
  case atStart => exact ⟨0, by omega, rfl, none, 0, 0, none, 0, 0, rfl, rfl, OwnE.nil _ _, OwnE.nil _ _, Below.refl _ _⟩
  case round =>
    obtain ⟨k, hk, rfl, A5, n5, c5, A6, n6, c6, rfl, rfl, hO5, hO6, hB⟩ := hrel
    by_cases hlt : k < m
    · have hlti : (k : Int) < m := by omega
      have hltd : decide ((k : Int) < (m : Int)) = true := decide_eq_true hlti
      have hk0 : ¬ ((k : Int) < 0) := by omega
      obtain ⟨x, hx⟩ : ∃ x, T.l[k]? = some x := ⟨_, List.getElem?_eq_getElem (by rw [H.out.2.2.1]; exact hlt)⟩
      obtain ⟨g, off, hAe, hg, c0, c1, c2, c3⟩ := sess_at (H.out.1.row.rd.below hB) hx
      subst hAe
      obtain ⟨b, hb⟩ : ∃ b, q x = b := ⟨_, rfl⟩
      obtain ⟨wA, hwA⟩ : ∃ wA, wr.alloc (.cells #[.int .i64 x.h, .int .i64 x.c, .int .i64 x.s, .bool x.rw] 59) = wA := ⟨_, rfl⟩
      have bA : Blk wA wr.heap.size 59 #[.int .i64 x.h, .int .i64 x.c, .int .i64 x.s, .bool x.rw] := by rw [← hwA]; exact Blk.new _ _ _
      have hbA : Below wr.heap.size wr wA := by rw [← hwA]; exact (Below.refl _ _).alloc (Nat.le_refl _) _
      have hBA : Below w.heap.size w wA := hB.trans (hbA.mono hB.size)
      have hask := H.out.2.1.ask wA x hBA
      rw [hb] at hask
      have g0 := bA.cell 0
      have g1 := bA.cell 1
      have g2 := bA.cell 2
      have g3 := bA.cell 3
      simp only [List.getElem?_toArray, List.getElem?_cons_succ, List.getElem?_cons_zero] at g0 g1 g2 g3
      have HQ := Lib.hid (And.intro (hO5.below hbA) (And.intro (hO6.below hbA) (And.intro hBA (And.intro hx (And.intro hb (And.intro hask (And.intro bA hB.size)))))))
      clear hO5 hO6 hB hbA hBA hx hb hask bA
      have hEN := hEN0.out
      go_wp2_with fail
      refine HQ.out.2.2.2.2.2.1.mono ?_
      rintro e w2 ⟨rfl, hb2⟩
      have bA2 := HQ.out.2.2.2.2.2.2.1.below hb2
      have hw2 : Below w.heap.size w w2 := HQ.out.2.2.1.trans (hb2.mono HQ.out.2.2.1.size)
      have g0 := bA2.cell 0
      have g1 := bA2.cell 1
      have g2 := bA2.cell 2
      have g3 := bA2.cell 3
      simp only [List.getElem?_toArray, List.getElem?_cons_succ, List.getElem?_cons_zero] at g0 g1 g2 g3
      have H2 := Lib.hid (And.intro hw2 (And.intro (HQ.out.1.below hb2) (HQ.out.2.1.below hb2)))
      clear hb2 c0 c1 c2 c3 bA2 hw2 hwA
      cases b with
      | true =>
        go_wp2_with (at_builtin; go_must (refine wp_appE Try.eI (.tmp 24) (.tmp 27) w.heap.size (.slice A5 n5 c5) _ (H2.out.2.1.below ((Below.refl _ _).alloc (Nat.le_refl _) (.cells #[.int .i64 x.h] 3))) (by simp; have := H2.out.1.size; omega) (some ⟨w2.heap.size, 0, none⟩) 1 1 [x.h] (Blk.rdC Try.eI (Blk.new w2 3 #[.int .i64 x.h]) rfl) (fun h => by cases h) (by rw [List.length_map]; have := filter_len T.l q k; simp; omega) rfl rfl rfl rfl ?_); intro A7 n7 c7 w7 hG; have H7 := Lib.hid hG; clear hG)
        go_roundw
        case measure => simp [intOf]; omega
        have hal : Below w2.heap.size w2 (w2.alloc (.cells #[.int .i64 x.h] 3)) := (Below.refl _ _).alloc (Nat.le_refl _) _
        have hb7 : Below w.heap.size w w7 := (H2.out.1.trans (hal.mono H2.out.1.size)).trans H7.out.below
        refine ⟨k + 1, by omega, by simp, A7, n7, c7, A6, n6, c6, rfl, rfl, ?_, ?_, hb7⟩
        · rw [filter_take_t _ _ _ _ HQ.out.2.2.2.1 HQ.out.2.2.2.2.1, List.map_append]; exact H7.out.own
        · rw [filter_take_f _ _ _ _ HQ.out.2.2.2.1 (by rw [HQ.out.2.2.2.2.1]; rfl)]
          refine (H2.out.2.2.below hal).keep (fun g hg => H7.out.grown.block g ((H2.out.2.2.below hal).lt hg).2 (fun e => ?_))
          obtain ⟨cs, hcs⟩ := (H2.out.2.2.below hal).blk hg
          exact (H2.out.2.1.below hal).ne hcs (by decide) e.symm
      | false =>
        go_wp2_with (at_builtin; go_must (refine wp_appE Try.eS (.tmp 29) (.tmp 31) w.heap.size (.slice A6 n6 c6) _ (H2.out.2.2.below ((Below.refl _ _).alloc (Nat.le_refl _) (.cells #[.int .i64 x.h, .int .i64 x.c, .int .i64 x.s, .bool x.rw] 59))) (by simp; have := H2.out.1.size; omega) (some ⟨w2.heap.size, 0, none⟩) 1 1 [x] (Blk.rdC Try.eS (Blk.new w2 59 #[.int .i64 x.h, .int .i64 x.c, .int .i64 x.s, .bool x.rw]) rfl) (fun h => by cases h) (by have := filter_len T.l (fun x => !q x) k; simp; omega) rfl rfl rfl rfl ?_); intro A7 n7 c7 w7 hG; have H7 := Lib.hid hG; clear hG)
        go_roundw
        case measure => simp [intOf]; omega
        have hal : Below w2.heap.size w2 (w2.alloc (.cells #[.int .i64 x.h, .int .i64 x.c, .int .i64 x.s, .bool x.rw] 59)) := (Below.refl _ _).alloc (Nat.le_refl _) _
        have hb7 : Below w.heap.size w w7 := (H2.out.1.trans (hal.mono H2.out.1.size)).trans H7.out.below
        refine ⟨k + 1, by omega, by simp, A5, n5, c5, A7, n7, c7, rfl, rfl, ?_, ?_, hb7⟩
        · rw [filter_take_f _ _ _ _ HQ.out.2.2.2.1 HQ.out.2.2.2.2.1]
          refine (H2.out.2.1.below hal).keep (fun g hg => H7.out.grown.block g ((H2.out.2.1.below hal).lt hg).2 (fun e => ?_))
          obtain ⟨cs, hcs⟩ := (H2.out.2.1.below hal).blk hg
          exact (H2.out.2.2.below hal).ne hcs (by decide) e.symm
        · rw [filter_take_t _ _ _ _ HQ.out.2.2.2.1 (by rw [HQ.out.2.2.2.2.1]; rfl)]; exact H7.out.own
    · obtain rfl : k = m := by omega
      have hlti : ¬ ((k : Int) < k) := by omega
      rw [show T.l.take k = T.l from List.take_of_length_le (by rw [H.out.2.2.1]; exact Nat.le_refl _)] at hO5 hO6
      have hTr := H.out.1.below hB
      have f0 := hTr.blk.frozen 0
      obtain ⟨q0, q1, q2⟩ := hTr.cells
      obtain ⟨L, hL⟩ : ∃ L, T.l.filter (fun x => !q x) = L := ⟨_, rfl⟩
      obtain ⟨gn, hgn⟩ : ∃ gn, (T.l.filter q).map PS.h = gn := ⟨_, rfl⟩
      rw [hL] at hO6
      rw [hgn] at hO5
      obtain ⟨wC, hwC⟩ : ∃ wC, wr.setCell ⟨p, 0, none⟩ (.slice A6 n6 c6) = wC := ⟨_, rfl⟩
      have hTC : Turn [p] wr wC := by rw [← hwC]; exact (Turn.refl _ _).setCell (.inl (by simp)) _
      have bC : Blk wC p 54 #[.slice A6 n6 c6, .int .i64 T.last, .map (some mb)] := by
        rw [← hwC]
        have := hTr.blk.set_ 0 (.slice A6 n6 c6)
        simpa using this
      have hpw : p < w.heap.size := H.out.1.blk.lt
      have hmne : mb ≠ p := H.out.1.map.ne H.out.1.blk
      have hwB : B ≤ w.heap.size := by have := H.out.1.lp; omega
      have hLl : L.length ≤ 1000 := by rw [← hL]; exact Nat.le_trans (List.length_filter_le _ _) H.out.1.small
      have hLw : ∀ x ∈ L, x.wf := by rw [← hL]; exact fun x hx => H.out.1.wf x (List.mem_filter.1 hx).1
      have hTb : TbAt wC B p A6 n6 c6 mb ⟨L, T.last, T.who, T.n⟩ := ⟨bC, (hO6.turn hTC (fun g hg hm => by have := (hO6.lt hg).1; simp at hm; omega)).mono hwB, hTr.map.keep (hTC.block mb hTr.map.lt (by simp; exact hmne)), H.out.1.lp, H.out.1.lm, hLl, hLw⟩
      have hO5C : OwnE Try.eI wC w.heap.size (.slice A5 n5 c5) gn := hO5.turn hTC (fun g hg hm => by have := (hO5.lt hg).1; simp at hm; omega)
      have hO6C : OwnE Try.eS wC w.heap.size (.slice A6 n6 c6) L := hO6.turn hTC (fun g hg hm => by have := (hO6.lt hg).1; simp at hm; omega)
      have hmw : mb < w.heap.size := H.out.1.map.lt
      have hTw : Turn [p, mb] w wC := (Turn.of_below _ hB).trans hTC (fun x hx => by simp at hx; subst hx; simp)
      have HC := Lib.hid (And.intro hTb (And.intro hO5C (And.intro hTw (And.intro hB.size (And.intro hmw (And.intro hL hgn))))))
      have HO6 := Lib.hid hO6C
      obtain ⟨z0, z1, z2⟩ := hTb.cells
      clear hO5 hO6 hB hTr hTC bC hTb hO5C hTw hL hgn hLl hLw hwB hO6C hmw hmne
      go_wp2_with (first
        | (at_range; go_must (refine wp_mrange _ mb T.n T.who HC.out.1.map rfl rfl rfl ?_); intro w0 left cnt hrg hleft hbw hs0; have HR0 := Lib.hid (And.intro hrg (And.intro hleft (And.intro hbw hs0))); clear hrg hleft hbw hs0)
        | go_in)
      try go_frame
      clear hwC z0 z1 z2 q0 q1 q2 f0
      obtain ⟨r, hr⟩ : ∃ r, wC.heap.size = r := ⟨_, rfl⟩
      rw [hr] at HR0
      rw [hr]
      have Hr := Lib.hid hr
      clear hr
      go_loopw [9] (fun _ wl => ∃ left cnt g, ClI w B p A6 n6 c6 mb r ⟨L, T.last, T.who, T.n⟩ left cnt g [p, mb] (.slice A5 n5 c5) gn wl) (fun _ wl => wl.rangeLeft mb r)
      case atStart =>
        refine ⟨_, _, T.who, ⟨HR0.out.1, fun a b ha hb => ?_, HC.out.1.below (by have := HR0.out.2.2.1; rw [← Hr.out] at this; exact this), HC.out.2.2.1.trans (Turn.of_below [] (by have := HR0.out.2.2.1; rw [← Hr.out] at this; exact this)) (by simp), HC.out.2.1.below (by have := HR0.out.2.2.1; rw [← Hr.out] at this; exact this), by have := Hr.out; have := HC.out.2.2.1.size; omega, fun g hg => by rw [← Hr.out]; exact (HO6.out.lt hg).2, fun g hg => by rw [← Hr.out]; exact (HC.out.2.1.lt hg).2⟩⟩
        rw [HR0.out.2.1 a b ha hb]
        cases T.who a b <;> simp
      case round =>
        obtain ⟨left, cnt, g, hI⟩ := hrel
        have HI := Lib.hid hI
        clear hI
        go_wp2_with (first
          | (at_next; go_must (refine wp_mnext _ mb r T.n cnt g left HI.out.rng rfl rfl rfl ?_ ?_))
          | go_in)
        · intro hl0
          have HL0 := Lib.hid hl0
          clear hl0
          go_wp2
          go_ret
          have hTc : T.closed q = ⟨L, T.last, fun a b => if L.any (fun x => decide (x.c = a ∧ x.s = b)) = true then T.who a b else none, T.n⟩ := by unfold PT.closed; rw [HC.out.2.2.2.2.2.1]
          have htab := HI.out.tab
          refine ⟨A5, n5, c5, blocks A6 n6 c6 mb p, rfl, by rw [HC.out.2.2.2.2.2.2]; exact HI.out.own, ⟨A6, n6, c6, mb, ?_, rfl⟩, HI.out.turn.more (by unfold blocks; simp), fun x hx => ?_⟩
          · rw [hTc]
            exact ⟨htab.blk, htab.row, htab.map.congr (fun a b ha hb => by have := HI.out.eq a b ha hb; rw [HL0.out, Bool.or_false] at this; exact this), htab.lp, htab.lm, htab.small, htab.wf⟩
          · unfold blocks at hx ⊢
            rcases List.mem_cons.1 hx with rfl | hx
            · exact .inl (by simp)
            · rcases List.mem_cons.1 hx with rfl | hx
              · exact .inl (by simp)
              · exact .inr (HO6.out.lt (by simpa using hx)).1
        · intro x y u w1 cnt1 hx hy hlx hrg1 hlt1 hT1 hs1 hen
          have hrw := HI.out.new
          have hmw := HC.out.2.2.2.2.1
          have hmr : mb ≠ r := by omega
          have htab1 : TbAt w1 B p A6 n6 c6 mb ⟨L, T.last, g, T.n⟩ := HI.out.tab.keep hT1 (by simp; omega) (by simp; exact hmr) (fun g hg hm => by have := HI.out.l6 g hg; simp at hm; omega)
          have hown1 := HI.out.own.turn hT1 (fun g hg hm => by have := HI.out.l5 g hg; simp at hm; omega)
          have hturn1 : Turn [p, mb] w w1 := HI.out.turn.trans hT1 (fun x hx => .inr (by simp at hx; omega))
          obtain ⟨wA, hwA⟩ : ∃ wA, w1.alloc (.cells #[.int .i64 x, .int .i64 y] 56) = wA := ⟨_, rfl⟩
          have bA : Blk wA w1.heap.size 56 #[.int .i64 x, .int .i64 y] := by rw [← hwA]; exact Blk.new _ _ _
          have hbA : Below w1.heap.size w1 wA := by rw [← hwA]; exact (Below.refl _ _).alloc (Nat.le_refl _) _
          have hlt1' := htab1.blk.lt
          have hmlt1 := htab1.map.lt
          have hc := open_any B p _ _ x y wA ⟨A6, n6, c6, mb, htab1.below hbA, rfl⟩
          obtain ⟨b, hb⟩ : ∃ b, L.any (fun z => decide (z.c = x ∧ z.s = y)) = b := ⟨_, rfl⟩
          rw [show PT.open_ ⟨L, T.last, g, T.n⟩ x y = b from hb] at hc
          have HX := Lib.hid (And.intro hx (And.intro hy (And.intro hlx (And.intro hb (And.intro hc (And.intro hlt1 hs1))))))
          have H1 := Lib.hid (And.intro (hrg1.below hbA) (And.intro (htab1.below hbA) (And.intro (hown1.below hbA) (And.intro (hturn1.trans (Turn.of_below [] hbA) (by simp)) (And.intro bA hbA.size)))))
          have HN := Lib.hid (And.intro (show p < w.heap.size from hpw) (And.intro (show p ≠ mb from fun e => HI.out.tab.map.ne HI.out.tab.blk e.symm) (And.intro hmw (And.intro hturn1.size (And.intro hmr hrw)))))
          have g0 := bA.cell 0
          have g1 := bA.cell 1
          simp only [List.getElem?_toArray, List.getElem?_cons_succ, List.getElem?_cons_zero] at g0 g1
          clear hx hy hlx hrg1 hlt1 hT1 hs1 hrw hmw hmr htab1 hown1 hturn1 bA hbA hc hb hlt1' hmlt1
          go_wp2_with fail
          refine HX.out.2.2.2.2.1.mono ?_
          rintro e w2 ⟨rfl, hb2⟩
          have bA2 := H1.out.2.2.2.2.1.below hb2
          have htab2 := H1.out.2.1.below hb2
          obtain ⟨z0, z1, z2⟩ := htab2.cells
          have g0 := bA2.cell 0
          have g1 := bA2.cell 1
          simp only [List.getElem?_toArray, List.getElem?_cons_succ, List.getElem?_cons_zero] at g0 g1
          have H2 := Lib.hid (And.intro htab2 (And.intro (And.intro (H1.out.2.2.1.below hb2) (H1.out.2.2.2.1.trans (Turn.of_below [] hb2) (by simp))) (And.intro (H1.out.1.below hb2) (And.intro z2 (And.intro g0 g1)))))
          clear hb2 z0 z1 z2 bA2 htab2 hen hwA
          cases b with
          | true =>
            go_wp2_with fail
            go_roundw
            case measure => rw [H2.out.2.2.1.left_eq, HI.out.rng.left_eq]; exact HX.out.2.2.2.2.2.1
            refine ⟨_, _, g, ⟨H2.out.2.2.1, fun a b ha hb => ?_, H2.out.1, H2.out.2.1.2, H2.out.2.1.1, HI.out.new, HI.out.l6, HI.out.l5⟩⟩
            rw [HI.out.eq a b ha hb]
            by_cases he : a = x ∧ b = y
            · obtain ⟨rfl, rfl⟩ := he
              rw [HX.out.2.2.2.1]; simp
            · rw [Maps.sameKey_ne (kLit_ne ha hb HX.out.1 HX.out.2.1 he)]; simp
          | false =>
              go_wp2_with fail
              refine region_turn [mb] (by kernel_rfl) (fun wd hOld hHeld hSz => ?_)
              have HO := Lib.hid hOld
              clear hOld hSz
              refine takeL (i := 0) (v := ?_) rfl (by kernel_rfl) (by kernel_rfl) (by kernel_rfl) (fun _ _ _ h => h) (Or.inl ⟨by rfl, ?_⟩) hHeld ?_
              rotate_left
              focus (intro wq hSw; clear hSw; go_simp; try with_reducible rfl)
              try simp only [Act.put, List.setIfInBounds_toArray, List.set_cons_zero, List.set_cons_succ]
              refine takeL (i := 1) (v := ?_) rfl (by kernel_rfl) (by kernel_rfl) (by kernel_rfl) (fun _ _ _ h => h) (Or.inl ⟨by rfl, ?_⟩) hHeld ?_
              rotate_left
              focus (intro wq hSw; clear hSw; go_simp; try with_reducible rfl)
              try simp only [Act.put, List.setIfInBounds_toArray, List.set_cons_zero, List.set_cons_succ]
              refine takeL (i := 2) (v := ?_) rfl (by kernel_rfl) (by kernel_rfl) (by kernel_rfl) (fun _ _ _ h => h) (Or.inl ⟨by rfl, ?_⟩) hHeld ?_
              rotate_left
              focus (intro wq hSw; clear hSw; go_simp; try with_reducible rfl)
              try simp only [Act.put, List.setIfInBounds_toArray, List.set_cons_zero, List.set_cons_succ]
              refine takeL (i := 3) (v := ?_) rfl (by kernel_rfl) (by kernel_rfl) (by kernel_rfl) (fun _ _ _ h => h) (Or.inl ⟨by rfl, ?_⟩) hHeld ?_
              rotate_left
              focus (intro wq hSw; have f2 := cell_turn H2.out.2.2.2.1 hSw (by simp; exact HN.out.2.1); clear hSw; go_simp; try with_reducible rfl)
              try simp only [Act.put, List.setIfInBounds_toArray, List.set_cons_zero, List.set_cons_succ]
              refine takeL (i := 4) (v := ?_) rfl (by kernel_rfl) (by kernel_rfl) (by kernel_rfl) (fun _ _ _ h => h) (Or.inl ⟨by rfl, ?_⟩) hHeld ?_
              rotate_left
              focus (intro wq hSw; have g0 := cell_turn H2.out.2.2.2.2.1 hSw (by simp; have := HN.out; omega); have g1 := cell_turn H2.out.2.2.2.2.2 hSw (by simp; have := HN.out; omega); clear hSw; go_simp; try with_reducible rfl)
              try simp only [Act.put, List.setIfInBounds_toArray, List.set_cons_zero, List.set_cons_succ]
              refine wpAnyH_ready (rs := [5]) (by kernel_rfl) (by simp) ?_
              refine consL rfl (fun K hK => ?_) AllReadyH.nil
              refine step_mdel (.tmp 54) (.tmp 55) mb r T.n _ g _ x y (H2.out.2.2.1.below HO.out) HX.out.1 HX.out.2.1 rfl rfl rfl rfl ?_
              intro w3 cnt3 hrg3 hle3 hT3
              have hz := hHeld.trans hT3 (fun x hx => .inl hx)
              have H3 := Lib.hid (And.intro hrg3 (And.intro hle3 hz))
              refine hK.out _ _ hz (fun hHeld => ?_)
              clear hK K hz hrg3 hle3 hT3
              try simp only [Act.put, List.setIfInBounds_toArray, List.set_cons_zero, List.set_cons_succ]
              refine wpAnyH_done (by kernel_rfl) ?_ _
              refine NoPanic.normal ?_
              clear hHeld
              have hrg3 := H3.out.1
              rw [strike_twice] at hrg3
              have HR3 := Lib.hid hrg3
              clear hrg3
              have hT3 := H3.out.2.2
              have htab3 : TbAt w3 B p A6 n6 c6 mb ⟨L, T.last, delW g x y, T.n⟩ := ⟨H2.out.1.blk.turn hT3 (by simp; exact HN.out.2.1), H2.out.1.row.turn hT3 (fun g hg hm => by obtain ⟨cs, hcs⟩ := H2.out.1.row.blk hg; simp at hm; exact H2.out.1.map.ne hcs hm.symm), HR3.out.is, H2.out.1.lp, H2.out.1.lm, H2.out.1.small, H2.out.1.wf⟩
              have H4 := Lib.hid (And.intro htab3 (And.intro (H2.out.2.1.1.turn hT3 (fun g hg hm => by have := (H2.out.2.1.1.lt hg).1; have := HN.out.2.2.1; simp at hm; omega)) (H2.out.2.1.2.trans hT3 (fun x hx => .inl (by simp at hx; subst hx; simp)))))
              clear htab3 hT3
              go_wp2_with fail
              go_roundw
              case measure => rw [HR3.out.left_eq, HI.out.rng.left_eq]; have := HX.out.2.2.2.2.2.1; have := H3.out.2.1; omega
              refine ⟨_, _, _, ⟨HR3.out, fun a b ha hb => ?_, H4.out.1, H4.out.2.2, H4.out.2.1, HI.out.new, HI.out.l6, HI.out.l5⟩⟩
              unfold delW
              by_cases he : a = x ∧ b = y
              · obtain ⟨rfl, rfl⟩ := he
                rw [HX.out.2.2.2.1, sk_self]; simp
              · rw [if_neg he, HI.out.eq a b ha hb, Maps.sameKey_ne (kLit_ne ha hb HX.out.1 HX.out.2.1 he)]; simp
end Go.Proofs.Ytnpncbpbeikcaaa
