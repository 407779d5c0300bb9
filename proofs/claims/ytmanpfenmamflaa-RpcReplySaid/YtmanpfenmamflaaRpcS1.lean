/-
  The laws' Cut of a list of attributes.
-/
import Derived.Test.YtmanpfenmamflaaRpcR5
import Derived.Test.YtmanpfenmamflaaRpc9
namespace Go.Proofs.Ytmanpfenmamflaa
open Go.RowKit

theorem step_appT {ops : Array Oper} {o : Oper} {a : Act} {w : World} {K : Act → World → Prop} {Q : Exit → Act → World → Prop} {E : Prop} (s x : Operand) (base : Nat) (v : Sl) (l : List (Int × List UInt8)) (hown : OwnAts w base v l) (hbase : base ≤ w.heap.size)
    (b : Nat) (t : Int) (sx : Sl) (y : List UInt8) (hb : Blk w b 50 #[.int .i64 t, .slice sx.A sx.m sx.c]) (hy : Own w base (.slice sx.A sx.m sx.c) y) (hlen : l.length ≤ 100000) (hgd : o.guard = none)
    (ho : o.op = .call { callee := .builtin .append, args := #[s, x], argTypes := #[25, 25] }) (hs : a.eval s = .slice v.A v.m v.c) (hx : a.eval x = .slice (some ⟨b, 0, none⟩) 1 1)
    (h : ∀ (A' : Option Addr) (n' c' : Nat) (w' : World), OwnAts w' base ⟨A', n', c'⟩ (l ++ [(t, y)]) → Below base w w' → K (a.put o.dst (.slice A' n' c')) w') : if Region.wanted o (yielded ops a.tmps) = true then Oper.wp Try.prog o a w K Q else E := by
  rw [if_pos (by simp [Region.wanted, hgd])]
  obtain ⟨vs, h1, h2, h3⟩ := hown
  obtain ⟨i0, hi, hz0, hz1, hz2⟩ := info_parts Try.infoT
  obtain ⟨v', w', hr, ho', hg, hn, hbl⟩ := run_append_own_at (P := Try.prog) w base 25 o.type 50 i0 _ 2 32 Try.underlying25 hi hz0 hz1 hz2 rfl (by decide) (.slice v.A v.m v.c) vs.length (atC vs) h2 ⟨b, 0, none⟩ 1 1 [.int .i64 t, .slice sx.A sx.m sx.c] (by simp)
      (fun j u hu => by rw [show (⟨b, 0, none⟩ : Addr).add j = ⟨b, j, none⟩ by rw [Addr.add_mid, Nat.zero_add], hb.cell, List.getElem?_toArray]; exact hu) (fun u hu => by simp at hu; rcases hu with rfl | rfl <;> rfl) (by unfold maxLen; omega) (by omega) hbase
  unfold Oper.wp
  simp only [execOp, ho, resolve, invoke, builtin, Sem.run_bind, Sem.run_pure, Result.andThen_ok, List.map_toArray, List.map_cons, List.map_nil, hs, hx, hr]
  have hfin : ∃ A' n' c', v' = .slice A' n' c' := by
    obtain ⟨_, h | ⟨g, cap, cur, e, _⟩⟩ := ho'
    · exact ⟨_, _, _, h.1⟩
    · exact ⟨_, _, _, e⟩
  obtain ⟨A', n', c', rfl⟩ := hfin
  refine h A' n' c' w' ⟨vs ++ [(t, sx)], by simp [h1], ?_, fun j t' x' hj => ?_⟩ ((Below.refl base w).grown hg hbase (fun k hk => (h2.lt hk).1))
  · unfold OwnT
    rw [atC_append, List.length_append]
    exact ho'
  · have hne : ∀ {z : Value} {q : List UInt8}, Own w base z q → Own w' base z q := fun {z} {q} hz => by
      refine hz.keep (fun g hgz => hg.block g (hz.lt hgz).2 (fun e => ?_))
      obtain ⟨_, h | ⟨g', cap, cur, e', _, hh, _⟩⟩ := h2
      · rw [h.1] at e; cases e
      · rw [e'] at e
        have : g' = g := by cases e; rfl
        subst this
        exact hz.ne (t := 50) hh (by decide) hgz
    rcases Nat.lt_or_ge j l.length with hjl | hjl
    · rw [List.getElem?_append_left hjl] at hj
      obtain ⟨sj, k1, k2⟩ := h3 j t' x' hj
      exact ⟨sj, by rw [List.getElem?_append_left (by omega)]; exact k1, hne k2⟩
    · have hjj : j = l.length := by
        rcases Nat.lt_or_ge l.length j with h | h
        · rw [List.getElem?_eq_none (by simp; omega)] at hj; cases hj
        · omega
      subst hjj
      rw [List.getElem?_append_right (Nat.le_refl _), Nat.sub_self] at hj
      simp at hj
      obtain ⟨rfl, rfl⟩ := hj
      refine ⟨sx, ?_, hne hy⟩
      rw [List.getElem?_append_right (by omega), h1, Nat.sub_self]; rfl
def cutL (l : List (Int × List UInt8)) (n bt : Nat) : List (Int × List UInt8) := (l.take n).map fun a => (a.1, a.2.take bt)
/-- Below B nothing turns, as a word for a region. -/
theorem region_belowB {P : Program} {ops : Array Oper} {Q : Exit → Act → World → Prop} {id : Nat} {a : Act} {w : World} (B : Nat) (hB : B ≤ w.heap.size) (hm : P.follows .mixedOrders = true)
    (h : ∀ wd, Old w wd → Below B w wd → wpAnyH P .any ops (NoPanic Q) (Below B w) ops.size (Array.replicate ops.size false) a wd) : (Code.region id ops true).wp P Q a w :=
  wp_region_noPanic (wp_region_held_drew hm ((Old.drew (Old.refl w)).mono hB) (fun hS => h _ (Old.drew (Old.refl w)) hS))
set_option maxHeartbeats 2000000 in
theorem cut17_any (A : Option Addr) (m c n bt : Nat) (l : List (Int × List UInt8)) (w : World) (hx : AtsAt w w.heap.size A m l) (hm63 : m ≤ maxLen) (hn : n ≤ 1000) (hbt : bt ≤ 100000) :
    Calls Try.prog 18 #[.slice A m c, .int .i64 (n : Int), .int .i64 (bt : Int)] w fun e w' => ∃ s : Sl, e = .returned (.slice s.A s.m s.c) ∧ OwnAts w' w.heap.size s (cutL l n bt) ∧ Below w.heap.size w w' := by
  have hl := hx.1
  unfold maxLen at hm63
  have H := Lib.hid (And.intro hx (And.intro hl (And.intro hn hbt)))
  clear hx hl
  go_enter Try.func18, Try.ntmps18
  go_wp2_with fail
  go_loopw [7, 8] (fun v kk wr => ∃ k : Nat, k ≤ m ∧ k ≤ n ∧ kk = .int .i64 (k : Int) ∧ ∃ Ab nb cb, v = .slice Ab nb cb ∧ OwnAts wr w.heap.size ⟨Ab, nb, cb⟩ (cutL l k bt) ∧ Below w.heap.size w wr) (fun _ kk _ => n - (intOf kk).toNat)
  case atStart => exact ⟨0, by omega, by omega, rfl, none, 0, 0, rfl, OwnAts.nil _ _, Below.refl _ _⟩
  case round =>
    obtain ⟨k, hk, hkn, rfl, Ab, nb, cb, rfl, hO, hB⟩ := hrel
    have hk0 : ¬ ((k : Int) < 0) := by omega
    by_cases hlt : k < m ∧ k < n
    · have hlti : (k : Int) < m := by omega
      have hltd : decide ((k : Int) < m) = true := decide_eq_true hlti
      have hltj : (k : Int) < n := by omega
      have hltk : decide ((k : Int) < n) = true := decide_eq_true hltj
      obtain ⟨⟨t, x⟩, htx⟩ : ∃ tx, l[k]? = some tx := ⟨_, List.getElem?_eq_getElem (by have := H.out.2.1; omega)⟩
      obtain ⟨hxl, h2 | ⟨b, off, rfl, h3, h3', h4⟩⟩ := H.out.1.old hB
      · omega
      obtain ⟨k1, Aj, mj, cj, k2, k3⟩ := h4 k t x htx
      have HX := Lib.hid (And.intro k1 (And.intro k2 (And.intro k3 (And.intro htx (And.intro h3 hxl)))))
      have hlen : (cutL l k bt).length ≤ 1000 := by unfold cutL; rw [List.length_map, List.length_take]; omega
      have HR := Lib.hid (And.intro hO (And.intro hB hlen))
      have hml := k3.len
      have h63 : (mj : Int) ≤ 9223372036854775807 := by
        rcases k3 with ⟨k3, _⟩ | k3
        · have := k3.2.1; have := k3.2.2.1; unfold maxLen at this; omega
        · omega
      have HB3 := Lib.hid (And.intro h3 h3')
      clear h4 k1 k2 k3 htx hxl hO hB hlen hml
      go_wp2_with fail
      refine region_belowB w.heap.size HR.out.2.1.size (by kernel_rfl) (fun wd hOld hHeld => ?_)
      have HO := Lib.hid hOld
      clear hOld
      refine takeL (i := 0) (v := ?_) rfl (by kernel_rfl) (by kernel_rfl) (by kernel_rfl) (fun _ _ _ h => h) (Or.inl ⟨by rfl, ?_⟩) hHeld ?_
      rotate_left
      focus (intro wq hSw; clear hSw; go_simp; try with_reducible rfl)
      try simp only [Act.put, List.setIfInBounds_toArray, List.set_cons_zero, List.set_cons_succ]
      refine takeL (i := 1) (v := ?_) rfl (by kernel_rfl) (by kernel_rfl) (by kernel_rfl) (fun _ _ _ h => h) (Or.inl ⟨by rfl, ?_⟩) hHeld ?_
      rotate_left
      focus (intro wq hSw; clear hSw; go_simp; try with_reducible rfl)
      try simp only [Act.put, List.setIfInBounds_toArray, List.set_cons_zero, List.set_cons_succ]
      refine takeL (i := 2) (v := ?_) rfl (by kernel_rfl) (by kernel_rfl) (by kernel_rfl) (fun _ _ _ h => h) (Or.inl ⟨by rfl, ?_⟩) hHeld ?_
      rotate_left
      focus (intro wq hSw; clear hSw; go_simp; try with_reducible rfl)
      try simp only [Act.put, List.setIfInBounds_toArray, List.set_cons_zero, List.set_cons_succ]
      refine takeL (i := 3) (v := ?_) rfl (by kernel_rfl) (by kernel_rfl) (by kernel_rfl) (fun _ _ _ h => h) (Or.inl ⟨by rfl, ?_⟩) hHeld ?_
      rotate_left
      focus (intro wq hSw; clear hSw; go_simp; try with_reducible rfl)
      try simp only [Act.put, List.setIfInBounds_toArray, List.set_cons_zero, List.set_cons_succ]
      refine takeL (i := 4) (v := ?_) rfl (by kernel_rfl) (by kernel_rfl) (by kernel_rfl) (fun _ _ _ h => h) (Or.inl ⟨by rfl, ?_⟩) hHeld ?_
      rotate_left
      focus (intro wq hSw; clear hSw; go_simp; try with_reducible rfl)
      try simp only [Act.put, List.setIfInBounds_toArray, List.set_cons_zero, List.set_cons_succ]
      refine takeL (i := 5) (v := ?_) rfl (by kernel_rfl) (by kernel_rfl) (by kernel_rfl) (fun _ _ _ h => h) (Or.inl ⟨by rfl, ?_⟩) hHeld ?_
      rotate_left
      focus (intro wq hSw; have hcq : wq.cell? ⟨b, off + k * 2, none⟩ = some (.int .i64 t) := (hSw.cell (p := ⟨b, off + k * 2, none⟩) HX.out.2.2.2.2.1).trans HX.out.1; clear hSw; go_simp; try with_reducible rfl)
      try simp only [Act.put, List.setIfInBounds_toArray, List.set_cons_zero, List.set_cons_succ]
      refine takeL (i := 6) (v := ?_) rfl (by kernel_rfl) (by kernel_rfl) (by kernel_rfl) (fun _ _ _ h => h) (Or.inl ⟨by rfl, ?_⟩) hHeld ?_
      rotate_left
      focus (intro wq hSw; clear hSw; go_simp; try with_reducible rfl)
      try simp only [Act.put, List.setIfInBounds_toArray, List.set_cons_zero, List.set_cons_succ]
      refine takeL (i := 7) (v := ?_) rfl (by kernel_rfl) (by kernel_rfl) (by kernel_rfl) (fun _ _ _ h => h) (Or.inl ⟨by rfl, ?_⟩) hHeld ?_
      rotate_left
      focus (intro wq hSw; clear hSw; go_simp; try with_reducible rfl)
      try simp only [Act.put, List.setIfInBounds_toArray, List.set_cons_zero, List.set_cons_succ]
      refine takeL (i := 8) (v := ?_) rfl (by kernel_rfl) (by kernel_rfl) (by kernel_rfl) (fun _ _ _ h => h) (Or.inl ⟨by rfl, ?_⟩) hHeld ?_
      rotate_left
      focus (intro wq hSw; clear hSw; go_simp; try with_reducible rfl)
      try simp only [Act.put, List.setIfInBounds_toArray, List.set_cons_zero, List.set_cons_succ]
      refine takeL (i := 9) (v := ?_) rfl (by kernel_rfl) (by kernel_rfl) (by kernel_rfl) (fun _ _ _ h => h) (Or.inl ⟨by rfl, ?_⟩) hHeld ?_
      rotate_left
      focus (intro wq hSw; clear hSw; go_simp; try with_reducible rfl)
      try simp only [Act.put, List.setIfInBounds_toArray, List.set_cons_zero, List.set_cons_succ]
      refine takeL (i := 10) (v := ?_) rfl (by kernel_rfl) (by kernel_rfl) (by kernel_rfl) (fun _ _ _ h => h) (Or.inl ⟨by rfl, ?_⟩) hHeld ?_
      rotate_left
      focus (intro wq hSw; have hcq : wq.cell? ⟨b, off + k * 2 + 1, none⟩ = some (.slice Aj mj cj) := (hSw.cell (p := ⟨b, off + k * 2 + 1, none⟩) HX.out.2.2.2.2.1).trans HX.out.2.1; clear hSw; go_simp; try with_reducible rfl)
      try simp only [Act.put, List.setIfInBounds_toArray, List.set_cons_zero, List.set_cons_succ]
      refine takeL (i := 11) (v := ?_) rfl (by kernel_rfl) (by kernel_rfl) (by kernel_rfl) (fun _ _ _ h => h) (Or.inl ⟨by rfl, ?_⟩) hHeld ?_
      rotate_left
      focus (intro wq hSw; clear hSw; go_simp; try with_reducible rfl)
      try simp only [Act.put, List.setIfInBounds_toArray, List.set_cons_zero, List.set_cons_succ]
      refine wpAnyH_ready (rs := [12]) (by kernel_rfl) (by simp) ?_
      refine consL rfl (fun K hK => ?_) AllReadyH.nil
      go_simp
      have hrd : RdE wd Aj mj cj x := (HX.out.2.2.1.old hHeld).e
      refine (short_E Aj mj cj bt x wd hrd H.out.2.2.2).mono ?_
      rintro e w1 ⟨rfl, rfl⟩
      have hrd2 : RdE wd Aj (min mj bt) cj (x.take bt) := hrd.short
      have Hrd := Lib.hid hrd2
      clear hrd hrd2
      refine hK.out _ _ hHeld (fun hHeld => ?_)
      clear hK K
      try simp only [Act.put, List.setIfInBounds_toArray, List.set_cons_zero, List.set_cons_succ]
      refine wpAnyH_ready (rs := [13]) (by kernel_rfl) (by simp) ?_
      refine consL rfl (fun K hK => ?_) AllReadyH.nil
      refine step_app2E (.const (.slice none 0 0)) (.tmp 32) wd.heap.size (.slice none 0 0) [] (Own.nil _ _) (Nat.le_refl _) Aj (min mj bt) cj (x.take bt) Hrd.out (by rw [List.length_take]; simp; have := H.out.2.2.2; omega) rfl rfl rfl rfl ?_
      intro A4 n4 c4 w4 hi4 hG
      rw [List.nil_append] at hG
      have hwd : w.heap.size ≤ wd.heap.size := Nat.le_trans HR.out.2.1.size hHeld.size
      have hz : Below w.heap.size wr w4 := hHeld.trans (hG.below.mono hwd)
      have H4 := Lib.hid (And.intro hG.own (And.intro hG.below (And.intro hz hwd)))
      refine hK.out _ _ hz (fun hHeld => ?_)
      clear hK K hG hz hwd
      try simp only [Act.put, List.setIfInBounds_toArray, List.set_cons_zero, List.set_cons_succ]
      refine takeL (i := 14) (v := ?_) rfl (by kernel_rfl) (by kernel_rfl) (by kernel_rfl) (fun _ _ _ h => h) (Or.inl ⟨by rfl, ?_⟩) hHeld ?_
      rotate_left
      focus (intro wq hSw; clear hSw; go_simp; try with_reducible rfl)
      try simp only [Act.put, List.setIfInBounds_toArray, List.set_cons_zero, List.set_cons_succ]
      refine wpAnyH_ready (rs := [15]) (by kernel_rfl) (by simp) ?_
      refine consL rfl (fun K hK => ?_) AllReadyH.nil
      go_simp
      have hz : Below w.heap.size wr (w4.alloc (.cells #[.int .i64 t, .slice A4 n4 c4] 50)) := hHeld.alloc (Nat.le_trans H4.out.2.2.2 H4.out.2.1.size) _
      refine hK.out _ _ hz (fun hHeld => ?_)
      clear hK K hz
      try simp only [Act.put, List.setIfInBounds_toArray, List.set_cons_zero, List.set_cons_succ]
      have hal : Below w4.heap.size w4 (w4.alloc (.cells #[.int .i64 t, .slice A4 n4 c4] 50)) := (Below.refl _ _).alloc (Nat.le_refl _) _
      refine wpAnyH_ready (rs := [16]) (by kernel_rfl) (by simp) ?_
      refine consL rfl (fun K hK => ?_) AllReadyH.nil
      have hown : OwnAts wr w.heap.size ⟨Ab, nb, cb⟩ (cutL l k bt) := HR.out.1
      refine step_appT (.tmp 20) (.tmp 35) w.heap.size ⟨Ab, nb, cb⟩ (cutL l k bt) (((hown.below HO.out).below H4.out.2.1).below hal) (by simp; have := H4.out.2.1.size; have := H4.out.2.2.2; omega) w4.heap.size t ⟨A4, n4, c4⟩ (x.take bt) (Blk.new _ _ _) ((H4.out.1.mono H4.out.2.2.2).below hal) (by have := HR.out.2.2; omega) rfl rfl rfl rfl ?_
      intro A5 n5 c5 w5 hO5 hB5
      have hz := hHeld.trans hB5
      have H5 := Lib.hid (And.intro hO5 (HR.out.2.1.trans hz))
      refine hK.out _ _ hz (fun hHeld => ?_)
      clear hK K hz hO5 hB5 hown hal
      try simp only [Act.put, List.setIfInBounds_toArray, List.set_cons_zero, List.set_cons_succ]
      refine takeL (i := 17) (v := ?_) rfl (by kernel_rfl) (by kernel_rfl) (by kernel_rfl) (fun _ _ _ h => h) (Or.inl ⟨by rfl, ?_⟩) hHeld ?_
      rotate_left
      focus (intro wq hSw; clear hSw; go_simp; try with_reducible rfl)
      try simp only [Act.put, List.setIfInBounds_toArray, List.set_cons_zero, List.set_cons_succ]
      refine wpAnyH_done (by kernel_rfl) ?_ _
      refine NoPanic.normal ?_
      clear hHeld
      go_wp2_with fail
      go_roundw
      case measure => simp [intOf]; omega
      refine ⟨k + 1, by omega, by omega, by simp, A5, n5, c5, rfl, ?_, H5.out.2⟩
      have e : cutL l (k + 1) bt = cutL l k bt ++ [(t, x.take bt)] := by
        unfold cutL
        rw [List.take_add_one, HX.out.2.2.2.1, List.map_append]; rfl
      rw [e]
      exact H5.out.1
    · have hfin : cutL l k bt = cutL l n bt := by
        unfold cutL
        by_cases h1 : k < m
        · have : k = n := by omega
          rw [this]
        · rw [List.take_of_length_le (by have := H.out.2.1; omega), List.take_of_length_le (by have := H.out.2.1; omega)]
      rw [hfin] at hO
      have HR := Lib.hid (And.intro hO hB)
      clear hO hB
      by_cases h1 : k < m
      · have hlti : (k : Int) < m := by omega
        have hltd : decide ((k : Int) < m) = true := decide_eq_true hlti
        have hltj : ¬ (k : Int) < n := by omega
        have hltk : decide ((k : Int) < n) = false := decide_eq_false hltj
        go_wp2_with fail
        go_ret
        exact ⟨⟨Ab, nb, cb⟩, rfl, HR.out.1, HR.out.2⟩
      · have hlti : ¬ (k : Int) < m := by omega
        have hltd : decide ((k : Int) < m) = false := decide_eq_false hlti
        go_wp2_with fail
        go_ret
        exact ⟨⟨Ab, nb, cb⟩, rfl, HR.out.1, HR.out.2⟩
end Go.Proofs.Ytmanpfenmamflaa
