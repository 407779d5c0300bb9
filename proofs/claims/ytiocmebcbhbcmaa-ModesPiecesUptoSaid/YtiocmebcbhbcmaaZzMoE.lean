/-
  Rows of no room, wherever they lie: Short, append.
  Modes: Update of a row that is read or has no room.
-/
import Derived.Test.YtiocmebcbhbcmaaZzOpenP
import Derived.Test.YtiocmebcbhbcmaaZzAesQ
namespace Go.Proofs.Ytiocmebcbhbcmaa
open Go.RowKit

theorem short_E (A : Option Addr) (m c n : Nat) (l : List UInt8) (w : World) (h : RdE w A m c l) (hn : n ≤ 100000) :
    Calls Try.prog 12 #[.slice A m c, .int .i64 n] w fun e w' => e = .returned (.slice A (min m n) c) ∧ w = w' := by
  rcases h with h | ⟨rfl, rfl, rfl⟩
  · exact short_any A m c n l w h hn
  · have h0 : ¬ ((n : Int) < 0) := by omega
    rw [Nat.zero_min]
    go_enter Try.func12, Try.ntmps12
    go_wp2
    go_ret
    exact ⟨rfl, rfl⟩
theorem RdE.short {w : World} {A : Option Addr} {m c n : Nat} {l : List UInt8} (h : RdE w A m c l) : RdE w A (min m n) c (l.take n) := by
  rcases h with h | ⟨rfl, rfl, rfl⟩
  · exact .inl h.short
  · exact .inr ⟨by simp, rfl, by simp⟩
theorem RdE.len {w : World} {A : Option Addr} {m c : Nat} {l : List UInt8} (h : RdE w A m c l) : m = l.length := by
  rcases h with h | ⟨rfl, rfl, rfl⟩
  · exact h.1
  · rfl
theorem run_append_E (w : World) (base : Nat) (ty : TypeId) (v : Value) (l : List UInt8) (hown : Own w base v l) (A : Option Addr) :
    (Builtin.append_ #[22, 22] ty #[v, .slice A 0 0]).run Try.prog w = .ok v w := by
  obtain ⟨i, hi, hz0, hz1, hz2⟩ := info_parts Try.infoU8
  rcases hown.2 with ⟨rfl, _⟩ | ⟨g, cap, cur, rfl, _, _, hnc, _⟩
  · cases A <;> simp [Builtin.append_, run_underlying Try.underlying22, sizeOf, typeInfo, hi, Builtin.lenOf, Builtin.firstCells, loadCells, loadCellsFrom]
  · cases A <;> simp [Builtin.append_, run_underlying Try.underlying22, sizeOf, typeInfo, hi, Builtin.lenOf, Builtin.firstCells, hnc, storeCells, loadCells, loadCellsFrom]
/-- append of a row that is read or has no room. -/
theorem wp_app2E {ops : Array Oper} {rest : List Oper} {o : Oper} {a : Act} {w : World} {Q : Exit → Act → World → Prop} (s x : Operand) (base : Nat) (v : Value) (l : List UInt8) (hown : Own w base v l) (hbase : base ≤ w.heap.size)
    (A : Option Addr) (m c : Nat) (l2 : List UInt8) (hrd : RdE w A m c l2) (hlen : l.length + l2.length ≤ 140737488355328) (hgd : o.guard = none)
    (ho : o.op = .call { callee := .builtin .append, args := #[s, x], argTypes := #[22, 22] }) (hs : a.eval s = v) (hx : a.eval x = .slice A m c)
    (h : ∀ (A' : Option Addr) (n' c' : Nat) (w' : World), (n' : Int) ≤ 9223372036854775807 → Grew base w w' v A' n' c' (l ++ l2) → wpList Try.prog ops Q rest (a.put o.dst (.slice A' n' c')) w') : wpList Try.prog ops Q (o :: rest) a w := by
  rcases hrd with hrd | ⟨rfl, rfl, rfl⟩
  · exact wp_app2 s x base v l hown hbase A m c l2 hrd hlen hgd ho hs hx h
  · refine wpList_plain hgd fun K hK => ?_
    have hrun := run_append_E w base o.type v l hown A
    unfold Oper.wp
    simp only [execOp, ho, resolve, invoke, builtin, Sem.run_bind, Sem.run_pure, Result.andThen_ok, List.map_toArray, List.map_cons, List.map_nil, hs, hx, hrun]
    obtain ⟨A', n', c', rfl, hn, hg⟩ := grew_of (l2 := []) hown hbase (by rw [List.append_nil]; exact hown) ⟨rfl, rfl, rfl, Nat.le_refl _, fun _ _ _ => rfl⟩ (by simp) (.inl rfl)
    exact hK _ _ (h _ _ _ _ hn hg)
end Go.Proofs.Ytiocmebcbhbcmaa
namespace Go.Proofs.Ytiocmebcbhbcmaa
set_option maxRecDepth 100000
open Go.RowKit

theorem run_append_OE (w : World) (base : Nat) (ty : TypeId) (A0 : Option Addr) (m0 c0 : Nat) (l : List UInt8) (hown : OwnO w base (.slice A0 m0 c0) l) (A : Option Addr) :
    (Builtin.append_ #[22, 22] ty #[.slice A0 m0 c0, .slice A 0 0]).run Try.prog w = .ok (.slice A0 m0 c0) w := by
  obtain ⟨i, hi, hz0, hz1, hz2⟩ := info_parts Try.infoU8
  have h1 := hown.rd.2.1
  cases A <;> cases A0 <;> simp [Builtin.append_, run_underlying Try.underlying22, sizeOf, typeInfo, hi, Builtin.lenOf, Builtin.firstCells, h1, storeCells, loadCells, loadCellsFrom]
theorem GrewO.same {w : World} {base : Nat} {A0 : Option Addr} {m0 c0 : Nat} {l : List UInt8} (hown : OwnO w base (.slice A0 m0 c0) l) : GrewO base w w A0 m0 c0 A0 m0 c0 (l ++ []) := by
  rw [List.append_nil]
  exact ⟨hown.len, hown, Turn.refl _ _, fun _ _ _ _ _ _ h => h, .inl ⟨rfl, rfl⟩⟩
theorem wp_app_OE {ops : Array Oper} {rest : List Oper} {o : Oper} {a : Act} {w : World} {Q : Exit → Act → World → Prop} (s x : Operand) (base : Nat) (A0 : Option Addr) (m0 c0 : Nat) (l : List UInt8) (hown : OwnO w base (.slice A0 m0 c0) l) (hbase : base ≤ w.heap.size)
    (A : Option Addr) (m c : Nat) (l2 : List UInt8) (hrd : RdE w A m c l2) (hlen : l.length + l2.length ≤ 140737488351232) (hgd : o.guard = none)
    (ho : o.op = .call { callee := .builtin .append, args := #[s, x], argTypes := #[22, 22] }) (hs : a.eval s = .slice A0 m0 c0) (hx : a.eval x = .slice A m c)
    (h : ∀ (A' : Option Addr) (n' c' : Nat) (w' : World), GrewO base w w' A0 m0 c0 A' n' c' (l ++ l2) → wpList Try.prog ops Q rest (a.put o.dst (.slice A' n' c')) w') : wpList Try.prog ops Q (o :: rest) a w := by
  rcases hrd with hrd | ⟨rfl, rfl, rfl⟩
  · exact wp_app_O s x base A0 m0 c0 l hown hbase A m c l2 hrd hlen hgd ho hs hx h
  · refine wpList_plain hgd fun K hK => ?_
    have hrun := run_append_OE w base o.type A0 m0 c0 l hown A
    unfold Oper.wp
    simp only [execOp, ho, resolve, invoke, builtin, Sem.run_bind, Sem.run_pure, Result.andThen_ok, List.map_toArray, List.map_cons, List.map_nil, hs, hx, hrun]
    exact hK _ _ (h _ _ _ _ (GrewO.same hown))
theorem count_zero (d : Nat) (A : Option Addr) (c : Nat) (w : World) :
    Calls Try.prog 41 #[.pointer (some ⟨d, 0, none⟩), .slice A 0 c] w fun e w' => e = .returned (.slice none 0 0) ∧ w = w' := by
  go_enter Try.func41, Try.ntmps41
  go_wp2_with fail
  refine wp_loop_rounds 1 ?_
  rw [rounds_succ]
  go_wp2_with fail
  go_ret
  exact ⟨rfl, rfl⟩
theorem count_E (x : CX) (ctr : List UInt8) (P : Option Addr) (np q : Nat) (pad : List UInt8) (A : Option Addr) (n c : Nat) (l : List UInt8) (w : World) (h : CntAt w x ctr P np q pad) (hr : RdE w A n c l) (hne : ∀ ad, A = some ad → 0 < n → ad.block ≠ x.gc) (hn : n ≤ 100000) :
    Calls Try.prog 41 #[.pointer (some ⟨x.d, 0, none⟩), .slice A n c] w fun e w' => ∃ A' n' c' P' np' q', e = .returned (.slice A' n' c') ∧ Own w' w.heap.size (.slice A' n' c') (cnt1 (encL x.ks x.R) x.wd l pad ctr).1 ∧
      CntAt w' x (cnt1 (encL x.ks x.R) x.wd l pad ctr).2.2 P' np' q' (cnt1 (encL x.ks x.R) x.wd l pad ctr).2.1 ∧ (∀ ad, P' = some ad → (∃ ad0, P = some ad0 ∧ ad.block = ad0.block) ∨ w.heap.size ≤ ad.block) ∧ Turn [x.d, x.gc] w w' ∧ (∀ ad, P' = some ad → (Value.slice A' n' c').ownBlock ≠ some ad.block) := by
  rcases Nat.eq_zero_or_pos n with h0 | h0
  · subst h0
    have hl : l = [] := List.eq_nil_of_length_eq_zero hr.len.symm
    subst hl
    refine (count_zero x.d A c w).mono ?_
    rintro e w' ⟨rfl, rfl⟩
    exact ⟨none, 0, 0, P, np, q, rfl, Own.nil _ _, h, fun ad e => .inl ⟨ad, e, rfl⟩, Turn.refl _ _, fun ad e => by simp [Value.ownBlock]⟩
  · rcases hr with hr | ⟨h1, _, _⟩
    · exact count_any x ctr P np q pad A n c l w h hr (fun ad e => hne ad e h0) hn
    · omega
set_option maxHeartbeats 2000000 in
theorem updB_E (G : List Nat) (d : Nat) (s : PS) (all : List UInt8) (x : BX) (W : Option Addr) (m cw : Nat) (L : Option Addr) (nl cl : Nat) (A : Option Addr) (n c : Nat) (b : List UInt8) (w : World) (h : StrB w G d s all x W m cw L nl cl) (hm : s.mode = 1 ∨ s.mode = 2 ∨ s.mode = 3) (hr : RdE w A n c b) (hGl : ∀ x ∈ G, x < w.heap.size) (hn : all.length + n ≤ 100000) :
    Calls Try.prog 17 #[.pointer (some ⟨d, 0, none⟩), .slice A n c] w (UpdRes w G d s all b) := by
  obtain ⟨xd, xm, xe, xk, xr, bk, g1, g2⟩ := h
  have hE : x.E = s.E := by unfold BX.E PS.E; rw [xk, xr]
  have hD : x.D = s.D := by unfold BX.D PS.D; rw [xk, xr]
  subst xd
  have y0 := bk.bkc.c0
  have y11 : w.cell? ⟨x.d, 11, none⟩ = some (.bool false) := bk.bkc.blk.cell 11
  have y4 := bk.bkc.c4
  have a3 : ((x.mode : Int) == 4) = false := by simp; omega
  have a4 : ¬ (x.mode : Int) = 4 := by omega
  have a5 : ((x.mode : Int) == 5) = false := by simp; omega
  have a6 : ¬ (x.mode : Int) = 5 := by omega
  have hbl : n = b.length := hr.len
  have hwl : m = all.length - 16 * s.nb all.length := by rw [bk.wait.rd.1]; simp
  have hadd := s.blk_add all b
  have hfr : ∀ l, s.front l = (s.blk l).1 := fun l => by unfold PS.front; rw [if_neg (by omega), if_neg (by omega)]
  have hkeep : s.keep = if (decide (x.mode = 3) && !x.enc) = true then 1 else 0 := by unfold PS.keep; rw [xm, xe]; cases s.enc <;> by_cases e : s.mode = 3 <;> simp [e]
  have HXK := xk
  have HXR := xr
  have HH := Lib.hid (And.intro bk (And.intro hr (And.intro hbl (And.intro hwl (And.intro hadd (And.intro hfr (And.intro hE (And.intro hD (And.intro xm (And.intro xe (And.intro g1 (And.intro g2 (And.intro hkeep hm)))))))))))))
  clear bk hr hbl hwl hadd hfr hE hD xm xe xk xr g1 g2 hkeep hm
  go_enter Try.func17, Try.ntmps17
  go_upto_region 14 with (at_builtin; go_must (refine wp_app_OE (.tmp 56) (.tmp 57) 0 W m cw _ HH.out.1.wait (Nat.zero_le _) A n c b HH.out.2.1 (by have h1 := HH.out.2.2.1; have h2 := HH.out.2.2.2.1; simp only [List.length_drop]; omega) rfl rfl rfl rfl ?_); intro A1 n1 c1 w1 hG; have hbk1 := HH.out.1.grown hG; have hbk0 := HH.out.1.grow hG; have y4b := hbk0.c4; have f4b := hbk0.frozen 4; have H1 := Lib.hid (And.intro hbk1 (And.intro hG hbk0)); clear hbk1 hG hbk0)
  obtain ⟨w2, hw2⟩ : ∃ w2, w1.setCell ⟨x.d, 4, none⟩ (.slice A1 n1 c1) = w2 := ⟨_, rfl⟩
  have hbk := H1.out.1
  have hT2 : Turn (x.d :: (W.map Addr.block).toList) w w2 := by rw [← hw2]; exact (H1.out.2.1.turn.more (fun y hy => List.mem_cons_of_mem _ hy)).trans turn_put (fun y hy => .inl (by simp at hy; simp [hy]))
  rw [hw2] at hbk ⊢
  have hpad := padded_any x A1 n1 c1 L nl cl _ w2 hbk.bkc
  have hn1 : n1 ≤ 100000 := by have := H1.out.2.1.len; have h1 := HH.out.2.2.1; have h2 := HH.out.2.2.2.1; simp only [List.length_append, List.length_drop] at this; omega
  have hW1 : ∀ ad, A1 = some ad → (∃ a0, W = some a0 ∧ ad.block = a0.block) ∨ w.heap.size ≤ ad.block := fun ad e => by
    rcases H1.out.2.1.at_ with ⟨h1, h2⟩ | h1
    · exact .inl ⟨ad, by rw [← h1]; exact e, rfl⟩
    · rw [e] at h1; right; simp at h1; omega
  have hfin : ∀ (e : Ending) (w' : World), (∃ A' n' c' W' m' cw' L' nl' cl', e = .returned (.slice A' n' c') ∧ Own w' w2.heap.size (.slice A' n' c') (blkN x.mode x.enc x.E x.D ((n1 - s.keep) / 16) (s.blk all).2 (all.drop (16 * s.nb all.length) ++ b)).1 ∧
      BkW w' x W' m' cw' ((all.drop (16 * s.nb all.length) ++ b).drop (16 * ((n1 - s.keep) / 16))) L' nl' cl' (blkN x.mode x.enc x.E x.D ((n1 - s.keep) / 16) (s.blk all).2 (all.drop (16 * s.nb all.length) ++ b)).2 ∧ W'.map Addr.block = A1.map Addr.block ∧ From w2.heap.size L' L A1 ∧ Turn [x.d] w2 w' ∧ (∀ ad, L' = some ad → (Value.slice A' n' c').ownBlock ≠ some ad.block) ∧ n' ≤ n1) → UpdRes w G x.d s all b e w' := by
    rintro e w' ⟨A', n', c', W', m', cw', L', nl', cl', rfl, p1, p2, p3, p4, p5, p6, p7⟩
    have hlen := H1.out.2.1.len
    obtain ⟨q1, q2⟩ := HH.out.2.2.2.2.1
    rw [hlen, HH.out.2.2.2.2.2.2.1, HH.out.2.2.2.2.2.2.2.1, HH.out.2.2.2.2.2.2.2.2.1, HH.out.2.2.2.2.2.2.2.2.2.1] at p1 p2
    rw [q2] at p2
    have e1 := congrArg Prod.fst q1
    have e2 := congrArg Prod.snd q1
    simp only at e1 e2
    rw [← e2] at p2
    have g1 := HH.out.2.2.2.2.2.2.2.2.2.2.1
    have g2 := HH.out.2.2.2.2.2.2.2.2.2.2.2.1
    have hWb : ∀ ad, W' = some ad → ad.block ∈ G ∨ w.heap.size ≤ ad.block := fun ad e => by
      obtain ⟨a0, h1, h2⟩ := map_block p3 ad e
      rcases hW1 a0 h1 with ⟨a1, h3, h4⟩ | h3
      · exact .inl (by rw [h2, h4]; exact g2 a1 (.inl h3))
      · exact .inr (by rw [h2]; exact h3)
    have hLb : ∀ ad, L' = some ad → ad.block ∈ G ∨ w.heap.size ≤ ad.block := fun ad e => by
      rcases p4 ad e with ⟨a0, h1, h2⟩ | ⟨a0, h1, h2⟩ | h1
      · exact .inl (by rw [h2]; exact g2 a0 (.inr h1))
      · rcases hW1 a0 h1 with ⟨a1, h3, h4⟩ | h3
        · exact .inl (by rw [h2, h4]; exact g2 a1 (.inl h3))
        · exact .inr (by rw [h2]; exact h3)
      · exact .inr (Nat.le_trans hT2.size h1)
    refine ⟨A', n', c', G ++ (W'.map Addr.block).toList ++ (L'.map Addr.block).toList, rfl, ?_, .inl ⟨HH.out.2.2.2.2.2.2.2.2.2.2.2.2.2, x, W', m', cw', L', nl', cl', ⟨rfl, HH.out.2.2.2.2.2.2.2.2.1, HH.out.2.2.2.2.2.2.2.2.2.1, HXK, HXR, p2, ⟨by simp [g1.1], by simp [g1.2.1], by simp [g1.2.2]⟩, fun ad e => ?_⟩⟩, ?_, fun y hy => ?_, fun y hy => ?_, fun g hg hm => ?_, ?_⟩
    · rw [HH.out.2.2.2.2.2.1, HH.out.2.2.2.2.2.1, e1, drop_front]
      exact p1.mono hT2.size
    · rcases e with e | e <;> rw [e] <;> simp
    · refine (hT2.trans p5 (fun y hy => .inl (by simp at hy; simp [hy]))).more (fun y hy => ?_)
      simp only [List.mem_cons] at hy
      rcases hy with rfl | hy
      · exact g1.1
      · cases W with
        | none => simp at hy
        | some ad => simp at hy; rw [hy]; exact g2 ad (.inl rfl)
    · simp only [List.mem_append] at hy
      rcases hy with (hy | hy) | hy
      · exact .inl hy
      · cases W' with
        | none => simp at hy
        | some ad => simp at hy; rw [hy]; exact hWb ad rfl
      · cases L' with
        | none => simp at hy
        | some ad => simp at hy; rw [hy]; exact hLb ad rfl
    · simp only [List.mem_append] at hy
      rcases hy with (hy | hy) | hy
      · have := hGl y hy; have := hT2.size; have := p5.size; omega
      · cases W' with
        | none => simp at hy
        | some ad => simp at hy; rw [hy]; exact p2.wait.rd.lt ad rfl
      · cases L' with
        | none => simp at hy
        | some ad => simp at hy; rw [hy]; exact p2.bkc.last.lt ad rfl
    · simp only [List.mem_append] at hm
      have hge := (p1.lt hg).1
      rcases hm with (hm | hm) | hm
      · have := hGl g hm; have := hT2.size; omega
      · cases hW : W' with
        | none => rw [hW] at hm; simp at hm
        | some ad =>
          rw [hW] at hm; simp at hm
          obtain ⟨a0, h1, h2⟩ := map_block p3 ad hW
          have := H1.out.1.wait.rd.lt a0 h1
          rw [hw2] at this
          omega
      · cases hL : L' with
        | none => rw [hL] at hm; simp at hm
        | some ad =>
          rw [hL] at hm; simp at hm
          exact p6 ad hL (by rw [hg, hm])
    · have h1 := HH.out.2.2.1
      have h2 := HH.out.2.2.2.1
      simp only [List.length_append, List.length_drop] at hlen
      omega
  have HF := Lib.hid hfin
  have HB := Lib.hid (And.intro hbk hpad)
  clear hbk hT2 hpad hW1 hfin hw2 hGl
  go_wp2_with fail
  refine HB.out.2.mono ?_
  rintro e w3 ⟨rfl, rfl⟩
  cases hq : (decide (x.mode = 3) && !x.enc) with
  | true =>
    have hcall := blocks_any x 1 A1 n1 c1 _ L nl cl _ w2 HB.out.1 (by omega) hn1
    have hk1 : s.keep = 1 := by rw [HH.out.2.2.2.2.2.2.2.2.2.2.2.2.1, hq]; rfl
    have HC := Lib.hid (And.intro hcall hk1)
    clear hcall hk1 hq
    go_wp2_with fail
    refine HC.out.1.mono ?_
    intro e w4 hpost
    rw [← HC.out.2] at hpost
    have hres := HF.out e w4 hpost
    obtain ⟨A5, n5, c5, G5, rfl, r1, r2, r3, r4⟩ := hres
    have HR := Lib.hid (And.intro r1 (And.intro r2 (And.intro r3 r4)))
    clear hpost r1 r2 r3 r4
    go_wp2_with fail
    go_ret
    exact ⟨A5, n5, c5, G5, rfl, HR.out.1, HR.out.2.1, HR.out.2.2.1, HR.out.2.2.2⟩
  | false =>
    have hcall := blocks_any x 0 A1 n1 c1 _ L nl cl _ w2 HB.out.1 (by omega) hn1
    have hk1 : s.keep = 0 := by rw [HH.out.2.2.2.2.2.2.2.2.2.2.2.2.1, hq]; rfl
    have HC := Lib.hid (And.intro hcall hk1)
    clear hcall hk1 hq
    go_wp2_with fail
    refine HC.out.1.mono ?_
    intro e w4 hpost
    rw [← HC.out.2] at hpost
    have hres := HF.out e w4 hpost
    obtain ⟨A5, n5, c5, G5, rfl, r1, r2, r3, r4⟩ := hres
    have HR := Lib.hid (And.intro r1 (And.intro r2 (And.intro r3 r4)))
    clear hpost r1 r2 r3 r4
    go_wp2_with fail
    go_ret
    exact ⟨A5, n5, c5, G5, rfl, HR.out.1, HR.out.2.1, HR.out.2.2.1, HR.out.2.2.2⟩
set_option maxHeartbeats 2000000 in
theorem updC_E (G : List Nat) (d : Nat) (s : PS) (all : List UInt8) (x : GX) (W P M D O : Vw) (A : Option Addr) (n c : Nat) (b : List UInt8) (w : World) (h : StrG w G d s [] (s.cn all).2.2 (s.cn all).2.1 [] x W P M D O) (hm : s.mode = 4) (hc0 : s.c0.length = 16) (hr : RdE w A n c b) (hA : ∀ ad, A = some ad → 0 < n → ad.block ∉ G) (hGl : ∀ x ∈ G, x < w.heap.size) (hn : n ≤ 100000) :
    Calls Try.prog 17 #[.pointer (some ⟨d, 0, none⟩), .slice A n c] w (UpdRes w G d s all b) := by
  have hE := h.E
  have hadd := PS.cn_add h hc0 all b
  obtain ⟨xd, xm, xe, xk, xr, xw, gc, wl, pl, ol, md, wn, on, g1, g2⟩ := h
  subst xd
  have y0 := gc.cells.cell 0
  have y11 : w.cell? ⟨x.d, 11, none⟩ = some (.bool false) := gc.cells.cell 11
  simp only [stG, List.getElem?_toArray, List.getElem?_cons_zero, List.getElem?_cons_succ] at y0
  rw [xm, hm, show ((4 : Nat) : Int) = 4 from rfl] at y0
  have hcall := count_E (x.cx W.v M.v D.v O.v) (s.cn all).2.2 P.A P.n P.c P.l A n c b w gc.cnt hr (fun ad e h0 => fun e2 => hA ad e h0 (by rw [e2]; exact g1.2.2.2)) hn
  rw [show (x.cx W.v M.v D.v O.v).d = x.d from rfl, show (x.cx W.v M.v D.v O.v).gc = x.gc from rfl, show (x.cx W.v M.v D.v O.v).ks = x.ks from rfl, show (x.cx W.v M.v D.v O.v).R = x.R from rfl, show (x.cx W.v M.v D.v O.v).wd = x.wd from rfl, hE, xw, pl] at hcall
  have HH := Lib.hid (And.intro hcall (And.intro hadd (And.intro gc (And.intro g1 (And.intro g2 hm)))))
  clear hcall hadd gc g1 g2 hm hr
  go_enter Try.func17, Try.ntmps17
  go_wp2_with fail
  refine HH.out.1.mono ?_
  rintro e w1 ⟨A1, n1, c1, P1, np1, q1, rfl, ho, hC, hP, hT, hpo⟩
  have HPo := Lib.hid (And.intro hpo hGl)
  clear hpo hGl
  have HR := Lib.hid (And.intro ho (And.intro hC (And.intro hP hT)))
  clear ho hC hP hT
  go_wp2_with fail
  go_ret
  have hf : ∀ l, s.front l = (s.cn l).1 := fun l => by unfold PS.front; rw [if_pos HH.out.2.2.2.2.2]
  have hgc := HH.out.2.2.1.count (P' := ⟨P1, np1, q1, (cnt1 s.E s.wd b (s.cn all).2.1 (s.cn all).2.2).2.1⟩) HR.out.2.2.2 HR.out.2.1 HR.out.2.2.1
  have e1 := congrArg Prod.fst HH.out.2.1
  have e2 := congrArg (fun t => t.2.1) HH.out.2.1
  have e3 := congrArg (fun t => t.2.2) HH.out.2.1
  simp only at e1 e2 e3
  refine ⟨A1, n1, c1, G ++ (P1.map Addr.block).toList, rfl, ?_, .inr (.inl ⟨HH.out.2.2.2.2.2, x, W, _, M, D, O, ⟨rfl, xm, xe, xk, xr, xw, (by rw [e3]; exact hgc), wl, e2.symm, ol, md, wn, on, ?_, fun ad e => ?_⟩⟩), HR.out.2.2.2.more (fun y hy => ?_), fun y hy => ?_, fun y hy => ?_, fun g hg hm2 => ?_, ?_⟩
  · rw [hf, hf, e1, drop_front]; exact HR.out.1
  · have := HH.out.2.2.2.1
    exact ⟨by simp [this.1], by simp [this.2.1], by simp [this.2.2.1], by simp [this.2.2.2]⟩
  · rcases e with e | e | e | e | e
    · exact List.mem_append.2 (.inl (HH.out.2.2.2.2.1 ad (.inl e)))
    · simp only at e; rw [e]; simp
    · exact List.mem_append.2 (.inl (HH.out.2.2.2.2.1 ad (.inr (.inr (.inl e)))))
    · exact List.mem_append.2 (.inl (HH.out.2.2.2.2.1 ad (.inr (.inr (.inr (.inl e))))))
    · exact List.mem_append.2 (.inl (HH.out.2.2.2.2.1 ad (.inr (.inr (.inr (.inr e))))))
  · simp at hy
    rcases hy with rfl | rfl
    · exact HH.out.2.2.2.1.1
    · exact HH.out.2.2.2.1.2.2.2
  · rcases gblk (P := ⟨P1, 0, 0, []⟩) hy with hy | ⟨ad, h1, h2⟩
    · exact .inl hy
    · rcases HR.out.2.2.1 ad h1 with ⟨a0, h3, h4⟩ | h3
      · exact .inl (by rw [h2, h4]; exact HH.out.2.2.2.2.1 a0 (.inr (.inl h3)))
      · exact .inr (by rw [h2]; exact h3)
  · rcases gblk (P := ⟨P1, 0, 0, []⟩) hy with hy | ⟨ad, h1, h2⟩
    · have := HPo.out.2 y hy; have := HR.out.2.2.2.size; omega
    · rw [h2]; exact HR.out.2.1.pad.lt ad h1
  · rcases gblk (P := ⟨P1, 0, 0, []⟩) hm2 with hy | ⟨ad, h1, h2⟩
    · have := HPo.out.2 g hy; have := (HR.out.1.lt hg).1; omega
    · exact HPo.out.1 ad h1 (by rw [hg, h2])
  · have := HR.out.1.len; have := cnt1_le s.E s.wd b (s.cn all).2.1 (s.cn all).2.2; omega
set_option maxHeartbeats 2000000 in
theorem updE_E (G : List Nat) (d : Nat) (s : PS) (all : List UInt8) (x : GX) (W P M D O : Vw) (A : Option Addr) (n c : Nat) (b : List UInt8) (w : World) (h : StrG w G d s [] (s.cn all).2.2 (s.cn all).2.1 (s.cn all).1 x W P M D O) (hm : s.mode = 5) (he : s.enc = true) (hc0 : s.c0.length = 16) (hr : RdE w A n c b) (hA : ∀ ad, A = some ad → 0 < n → ad.block ∉ G) (hGl : ∀ x ∈ G, x < w.heap.size) (hn : all.length + n ≤ 100000) :
    Calls Try.prog 17 #[.pointer (some ⟨d, 0, none⟩), .slice A n c] w (UpdRes w G d s all b) := by
  have hE := h.E
  have hadd := PS.cn_add h hc0 all b
  have hlen : ∀ l pad ctr : List UInt8, ctr.length = 16 → (cnt1 s.E s.wd l pad ctr).1.length = l.length ∧ (cnt1 s.E s.wd l pad ctr).2.2.length = 16 := fun l pad ctr hl => cnt1_len s.E s.wd (fun l hl e => by
    have h1 : (s.E l).length = 16 := enc_ne s.ks s.R l hl (by rw [← h.xk, ← h.xr]; exact h.gc.cnt.cip.2.2.2.2.2.1)
    rw [e] at h1
    cases h1) l pad ctr hl
  have hWn := h.wn (.inr he)
  obtain ⟨xd, xm, xe, xk, xr, xw, gc, wl, pl, ol, md, wn, on, g1, g2⟩ := h
  subst xd
  have y0 := gc.cells.cell 0
  have y1 := gc.cells.cell 1
  have y11 : w.cell? ⟨x.d, 11, none⟩ = some (.bool false) := gc.cells.cell 11
  simp only [stG, List.getElem?_toArray, List.getElem?_cons_zero, List.getElem?_cons_succ] at y0 y1
  rw [xm, hm, show ((5 : Nat) : Int) = 5 from rfl] at y0
  rw [xe, he] at y1
  have hcall := count_E (x.cx W.v M.v D.v O.v) (s.cn all).2.2 P.A P.n P.c P.l A n c b w gc.cnt hr (fun ad e h0 => fun e2 => hA ad e h0 (by rw [e2]; exact g1.2.2.2)) (by omega)
  rw [show (x.cx W.v M.v D.v O.v).d = x.d from rfl, show (x.cx W.v M.v D.v O.v).gc = x.gc from rfl, show (x.cx W.v M.v D.v O.v).ks = x.ks from rfl, show (x.cx W.v M.v D.v O.v).R = x.R from rfl, show (x.cx W.v M.v D.v O.v).wd = x.wd from rfl, hE, xw, pl] at hcall
  have hl1 := (hlen all [] s.c0 hc0).1
  have hl2 := (hlen b (s.cn all).2.1 (s.cn all).2.2 (hlen all [] s.c0 hc0).2).1
  have hbl := hr.len
  have HH := Lib.hid (And.intro hcall (And.intro hadd (And.intro gc (And.intro g1 (And.intro g2 (And.intro hm (And.intro he (And.intro hl1 (And.intro hl2 hbl)))))))))
  clear hcall hadd gc g1 g2 hm hr he hlen hl1 hl2 hbl
  go_enter Try.func17, Try.ntmps17
  go_wp2_with fail
  refine HH.out.1.mono ?_
  rintro e w1 ⟨A1, n1, c1, P1, np1, q1, rfl, ho, hC, hP, hT, hpo⟩
  have HPo := Lib.hid (And.intro hpo hGl)
  clear hpo hGl
  have hgc := HH.out.2.2.1.count (P' := ⟨P1, np1, q1, (cnt1 s.E s.wd b (s.cn all).2.1 (s.cn all).2.2).2.1⟩) hT hC hP
  have y10 : w1.cell? ⟨x.d, 10, none⟩ = some (.slice O.A O.n O.c) := hgc.cells.cell 10
  have HR := Lib.hid (And.intro ho (And.intro hgc (And.intro hP hT)))
  clear ho hC hP hT hgc
  go_wp2_with (at_builtin; refine wp_app2 (.tmp 46) (.tmp 47) 0 O.v O.l HR.out.2.1.out (Nat.zero_le _) A1 n1 c1 _ HR.out.1.rd (by have h1 := HH.out.2.2.2.2.2.2.2.1; have h2 := HH.out.2.2.2.2.2.2.2.2.1; have h3 := HH.out.2.2.2.2.2.2.2.2.2; have h4 : O.l.length = (cnt1 s.E s.wd all [] s.c0).1.length := congrArg List.length ol; omega) rfl rfl rfl rfl ?_; intro A5 n5 c5 w2 hn5 hG; obtain ⟨hg2, hb2⟩ := HR.out.2.1.growO hWn hG; have z10 := hb2.cell 10; have f10 := hb2.frozen 10; simp only [stG, List.getElem?_toArray, List.getElem?_cons_zero, List.getElem?_cons_succ] at z10; have H2 := Lib.hid (And.intro hg2 hG); clear hg2 hb2 hG)
  go_ret
  have hf : ∀ l, s.front l = (s.cn l).1 := fun l => by unfold PS.front; rw [if_neg (by rw [HH.out.2.2.2.2.2.1]; decide), if_pos HH.out.2.2.2.2.2.1, if_pos HH.out.2.2.2.2.2.2.1]
  have e1 := congrArg Prod.fst HH.out.2.1
  have e2 := congrArg (fun t => t.2.1) HH.out.2.1
  have e3 := congrArg (fun t => t.2.2) HH.out.2.1
  simp only at e1 e2 e3
  have hT2 : Turn O.v.ownBlock.toList w1 w2 := Turn.of_grown H2.out.2.grown
  have hob : ∀ g, O.v.ownBlock = some g → g ∈ G ∧ g < w.heap.size := fun g hg => by
    refine ⟨?_, (HH.out.2.2.1.out.lt hg).2⟩
    cases hA : O.A with
    | none => rw [Vw.v, hA] at hg; simp [Value.ownBlock] at hg
    | some ad => rw [Vw.v, hA] at hg; simp [Value.ownBlock] at hg; subst hg; exact HH.out.2.2.2.2.1 ad (.inr (.inr (.inr (.inr hA))))
  have hTd : Turn [x.d] w2 (w2.setCell ⟨x.d, 10, none⟩ (.slice A5 n5 c5)) := turn_put
  have hNr : NoRow w2 x.d := fun cs hcs => by
    have h9 := HR.out.2.1.cells
    have h8 : Blk w2 x.d 59 _ := h9.turn hT2 (fun hm => by
      have := hob x.d (by simpa using hm)
      obtain ⟨ad, e4, e5⟩ : ∃ ad, O.A = some ad ∧ ad.block = x.d := by
        have hg : O.v.ownBlock = some x.d := by simpa using hm
        cases hA : O.A with
        | none => rw [Vw.v, hA] at hg; simp [Value.ownBlock] at hg
        | some ad => rw [Vw.v, hA] at hg; simp [Value.ownBlock] at hg; exact ⟨ad, rfl, hg⟩
      exact (HH.out.2.2.1.sw ad (.inr e4)).1 e5)
    exact Blk.noRow h8 (by decide) cs hcs
  have ho2 : Own w2 w.heap.size (.slice A1 n1 c1) (cnt1 s.E s.wd b (s.cn all).2.1 (s.cn all).2.2).1 := HR.out.1.turn hT2 (fun g hg hm => by
    have h1 := (HR.out.1.lt hg).1
    have h2 := (hob g (by simpa using hm)).2
    omega)
  have hTall : Turn G w (w2.setCell ⟨x.d, 10, none⟩ (.slice A5 n5 c5)) := ((HR.out.2.2.2.more (S' := G) (fun y hy => by
      simp at hy
      rcases hy with rfl | rfl
      · exact HH.out.2.2.2.1.1
      · exact HH.out.2.2.2.1.2.2.2)).trans hT2 (fun y hy => .inl (hob y (by simpa using hy)).1)).trans hTd (fun y hy => .inl (by simp at hy; subst hy; exact HH.out.2.2.2.1.1))
  have h5 : ∀ ad, A5 = some ad → ad.block ∈ G ∨ w.heap.size ≤ ad.block := fun ad e => by
    rcases H2.out.2.at_ with h1 | h1
    · rw [e] at h1; exact .inl (hob ad.block h1.symm).1
    · rw [e] at h1; right; simp [Value.ownBlock] at h1; have := HR.out.2.2.2.size; omega
  refine ⟨A1, n1, c1, G ++ (P1.map Addr.block).toList ++ (A5.map Addr.block).toList, rfl, ?_, .inr (.inr (.inl ⟨HH.out.2.2.2.2.2.1, HH.out.2.2.2.2.2.2.1, x, W, _, M, D, _, ⟨rfl, xm, xe, xk, xr, xw, (by rw [e3]; exact H2.out.1), wl, e2.symm, ?_, md, wn, fun h => ?_, ?_, fun ad e => ?_⟩⟩)), hTall, fun y hy => ?_, fun y hy => ?_, fun g hg hm2 => ?_, ?_⟩
  · rw [hf, hf, e1, drop_front]
    exact ho2.turn hTd (fun g hg hm => by simp at hm; subst hm; exact (ho2.notin hNr) hg)
  · rw [e1, ← ol]
  · rcases h with h | h
    · rw [HH.out.2.2.2.2.2.1] at h; cases h
    · rw [HH.out.2.2.2.2.2.2.1] at h; cases h
  · have := HH.out.2.2.2.1
    exact ⟨by simp [this.1], by simp [this.2.1], by simp [this.2.2.1], by simp [this.2.2.2]⟩
  · rcases e with e | e | e | e | e
    · exact List.mem_append.2 (.inl (List.mem_append.2 (.inl (HH.out.2.2.2.2.1 ad (.inl e)))))
    · simp only at e; rw [e]; simp
    · exact List.mem_append.2 (.inl (List.mem_append.2 (.inl (HH.out.2.2.2.2.1 ad (.inr (.inr (.inl e)))))))
    · exact List.mem_append.2 (.inl (List.mem_append.2 (.inl (HH.out.2.2.2.2.1 ad (.inr (.inr (.inr (.inl e))))))))
    · simp only at e; rw [e]; simp
  · rcases gblk (P := ⟨A5, 0, 0, []⟩) hy with hy | ⟨ad, h1, h2⟩
    · rcases gblk (P := ⟨P1, 0, 0, []⟩) hy with hy | ⟨ad, h1, h2⟩
      · exact .inl hy
      · rcases HR.out.2.2.1 ad h1 with ⟨a0, h3, h4⟩ | h3
        · exact .inl (by rw [h2, h4]; exact HH.out.2.2.2.2.1 a0 (.inr (.inl h3)))
        · exact .inr (by rw [h2]; exact h3)
    · rw [h2]; exact h5 ad h1
  · have hs := hTall.size
    have hs2 := hTd.size
    have hs3 := hT2.size
    rcases gblk (P := ⟨A5, 0, 0, []⟩) hy with hy | ⟨ad, h1, h2⟩
    · rcases gblk (P := ⟨P1, 0, 0, []⟩) hy with hy | ⟨ad, h1, h2⟩
      · have := HPo.out.2 y hy; omega
      · have := Rd.lt HR.out.2.1.cnt.pad ad h1; rw [h2]; omega
    · have := H2.out.2.own.rd.lt ad h1; rw [h2]; omega
  · have hge := HR.out.1.lt hg
    rcases gblk (P := ⟨A5, 0, 0, []⟩) hm2 with hy | ⟨ad, h1, h2⟩
    · rcases gblk (P := ⟨P1, 0, 0, []⟩) hy with hy | ⟨ad, h1, h2⟩
      · have := HPo.out.2 g hy; omega
      · exact HPo.out.1 ad h1 (by rw [hg, h2])
    · simp only at h1
      rcases H2.out.2.at_ with h3 | h3
      · rw [h1] at h3
        have := (hob ad.block h3.symm).2
        omega
      · rw [h1] at h3
        simp [Value.ownBlock] at h3
        omega
  · have := HR.out.1.len; have := cnt1_le s.E s.wd b (s.cn all).2.1 (s.cn all).2.2; omega
theorem updD_E (G : List Nat) (d : Nat) (s : PS) (all : List UInt8) (x : GX) (W P M D O : Vw) (A : Option Addr) (n c : Nat) (b : List UInt8) (w : World) (h : StrG w G d s all s.c0 [] [] x W P M D O) (hm : s.mode = 5) (he : s.enc = false) (hr : RdE w A n c b) (hGl : ∀ x ∈ G, x < w.heap.size) (hn : all.length + n ≤ 100000) :
    Calls Try.prog 17 #[.pointer (some ⟨d, 0, none⟩), .slice A n c] w (UpdRes w G d s all b) := by
  have hOn := h.on (.inr he)
  obtain ⟨xd, xm, xe, xk, xr, xw, gc, wl, pl, ol, md, wn, on, g1, g2⟩ := h
  subst xd
  have y0 := gc.cells.cell 0
  have y1 := gc.cells.cell 1
  have y4 : w.cell? ⟨x.d, 4, none⟩ = some (.slice W.A W.n W.c) := gc.cells.cell 4
  have y11 : w.cell? ⟨x.d, 11, none⟩ = some (.bool false) := gc.cells.cell 11
  simp only [stG, List.getElem?_toArray, List.getElem?_cons_zero, List.getElem?_cons_succ] at y0 y1
  rw [xm, hm, show ((5 : Nat) : Int) = 5 from rfl] at y0
  rw [xe, he] at y1
  have hbl := hr.len
  have HH := Lib.hid (And.intro gc (And.intro g1 (And.intro g2 (And.intro hm (And.intro he (And.intro hr hbl))))))
  have HPo := Lib.hid hGl
  clear gc g1 g2 hm hr he hbl hGl
  go_enter Try.func17, Try.ntmps17
  go_wp2_with (at_builtin; refine wp_app_OE (.tmp 34) (.tmp 35) 0 W.A W.n W.c W.l HH.out.1.wait (Nat.zero_le _) A n c b HH.out.2.2.2.2.2.1 (by have h1 := HH.out.2.2.2.2.2.2; have h2 : W.l.length = all.length := congrArg List.length wl; omega) rfl rfl rfl rfl ?_; intro A1 n1 c1 w1 hG; obtain ⟨hg2, hb2⟩ := HH.out.1.growW hOn hG; have z4 := hb2.cell 4; have f4 := hb2.frozen 4; simp only [stG, List.getElem?_toArray, List.getElem?_cons_zero, List.getElem?_cons_succ] at z4; have H2 := Lib.hid (And.intro hg2 hG); clear hg2 hb2 hG)
  go_ret
  have hf : ∀ l, s.front l = [] := fun l => by unfold PS.front; rw [if_neg (by rw [HH.out.2.2.2.1]; decide), if_pos HH.out.2.2.2.1, if_neg (by rw [HH.out.2.2.2.2.1]; decide)]
  have h1 : ∀ ad, A1 = some ad → ad.block ∈ G ∨ w.heap.size ≤ ad.block := fun ad e => by
    rcases H2.out.2.at_ with ⟨h1, h2⟩ | h1
    · exact .inl (HH.out.2.2.1 ad (.inl (by rw [← h1]; exact e)))
    · rw [e] at h1; right; simp at h1; omega
  refine ⟨none, 0, 0, G ++ (A1.map Addr.block).toList, rfl, ?_, .inr (.inr (.inr ⟨HH.out.2.2.2.1, HH.out.2.2.2.2.1, x, _, P, M, D, O, ⟨rfl, xm, xe, xk, xr, xw, H2.out.1, ?_, pl, ol, md, fun h => ?_, on, ?_, fun ad e => ?_⟩⟩)), ?_, fun y hy => ?_, fun y hy => ?_, fun g hg hm2 => ?_, ?_⟩
  · rw [hf, hf]; exact Own.nil _ _
  · rw [← wl]
  · rcases h with h | h
    · rw [HH.out.2.2.2.1] at h; cases h
    · rw [HH.out.2.2.2.2.1] at h; cases h
  · have := HH.out.2.1
    exact ⟨by simp [this.1], by simp [this.2.1], by simp [this.2.2.1], by simp [this.2.2.2]⟩
  · rcases e with e | e
    · simp only at e; rw [e]; simp
    · exact List.mem_append.2 (.inl (HH.out.2.2.1 ad (.inr e)))
  · refine (H2.out.2.turn.more (fun y hy => ?_)).trans turn_put (fun y hy => .inl (by simp at hy; subst hy; exact HH.out.2.1.1))
    cases hA : W.A with
    | none => rw [hA] at hy; simp at hy
    | some ad => rw [hA] at hy; simp at hy; rw [hy]; exact HH.out.2.2.1 ad (.inl hA)
  · rcases gblk (P := ⟨A1, 0, 0, []⟩) hy with hy | ⟨ad, e1, e2⟩
    · exact .inl hy
    · rw [e2]; exact h1 ad e1
  · have hs := H2.out.2.turn.size
    rcases gblk (P := ⟨A1, 0, 0, []⟩) hy with hy | ⟨ad, e1, e2⟩
    · have := HPo.out y hy; simp; omega
    · have := H2.out.2.own.rd.lt ad e1; rw [e2]; simp; omega
  · simp [Value.ownBlock] at hg
  · omega
/-- A stream takes bytes in. -/
theorem update_E (G : List Nat) (d : Nat) (s : PS) (all : List UInt8) (A : Option Addr) (n c : Nat) (b : List UInt8) (w : World) (h : StrAt w G d s all) (hc0 : s.mode = 4 ∨ s.mode = 5 → s.c0.length = 16) (hr : RdE w A n c b) (hA : ∀ ad, A = some ad → 0 < n → ad.block ∉ G) (hGl : ∀ x ∈ G, x < w.heap.size) (hn : all.length + n ≤ 100000) :
    Calls Try.prog 17 #[.pointer (some ⟨d, 0, none⟩), .slice A n c] w (UpdRes w G d s all b) := by
  rcases h with ⟨hm, x, W, m, cw, L, nl, cl, h⟩ | ⟨hm, x, W, P, M, D, O, h⟩ | ⟨hm, he, x, W, P, M, D, O, h⟩ | ⟨hm, he, x, W, P, M, D, O, h⟩
  · exact updB_E G d s all x W m cw L nl cl A n c b w h hm hr hGl hn
  · exact updC_E G d s all x W P M D O A n c b w h hm (hc0 (.inl hm)) hr hA hGl (by omega)
  · exact updE_E G d s all x W P M D O A n c b w h hm he (hc0 (.inr hm)) hr hA hGl hn
  · exact updD_E G d s all x W P M D O A n c b w h hm he hr hGl hn
end Go.Proofs.Ytiocmebcbhbcmaa
