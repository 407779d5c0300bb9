/-
  Modes: the end of a stream of blocks: end.
  Modes: GCM's tag.
-/
import Derived.Test.YtiocmebcbhbcmaaMo8
import Derived.Test.YtiocmebcbhbcmaaZzAesR1
namespace Go.Proofs.Ytiocmebcbhbcmaa
set_option maxRecDepth 100000
open Go.RowKit

theorem region_wordM {P : Program} {ops : Array Oper} {Q : Exit → Act → World → Prop} {id : Nat} {a : Act} {w : World} (S : World → Prop) (hm : P.follows .mixedOrders = true) (h0 : S w.drew)
    (h : Old w w.drew → S w.drew → wpAnyH P .any ops (NoPanic Q) S ops.size (Array.replicate ops.size false) a w.drew) : (Code.region id ops true).wp P Q a w :=
  wp_region_noPanic (wp_region_held_drew hm h0 (h (Old.drew (Old.refl w))))
/-- append at a row from a spot on, as a step of a drawn region. -/
theorem step_app_O {ops : Array Oper} {o : Oper} {a : Act} {w : World} {K : Act → World → Prop} {Q : Exit → Act → World → Prop} {E : Prop} (s x : Operand) (base : Nat) (A0 : Option Addr) (m0 c0 : Nat) (l : List UInt8) (hown : OwnO w base (.slice A0 m0 c0) l) (hbase : base ≤ w.heap.size)
    (A : Option Addr) (m c : Nat) (l2 : List UInt8) (hrd : Rd w A m c l2) (hlen : l.length + l2.length ≤ 140737488351232) (hgd : o.guard = none)
    (ho : o.op = .call { callee := .builtin .append, args := #[s, x], argTypes := #[22, 22] }) (hs : a.eval s = .slice A0 m0 c0) (hx : a.eval x = .slice A m c)
    (h : ∀ (A' : Option Addr) (n' c' : Nat) (w' : World), GrewO base w w' A0 m0 c0 A' n' c' (l ++ l2) → K (a.put o.dst (.slice A' n' c')) w') :
    if Region.wanted o (yielded ops a.tmps) = true then Oper.wp Try.prog o a w K Q else E := by
  rw [if_pos (by simp [Region.wanted, hgd])]
  obtain ⟨A', n', c', w', hrun, hG⟩ := run_app_O w base o.type A0 m0 c0 l hown A m c l2 hrd hlen hbase
  unfold Oper.wp
  simp only [execOp, ho, resolve, invoke, builtin, Sem.run_bind, Sem.run_pure, Result.andThen_ok, List.map_toArray, List.map_cons, List.map_nil, hs, hx, hrun]
  exact h _ _ _ _ hG
theorem Rd.keepO {w w' : World} {base : Nat} {A0 A L : Option Addr} {m0 c0 n c nl cl : Nat} {l last : List UInt8} (hr : Rd w L nl cl last) (hG : GrewO base w w' A0 m0 c0 A n c l) (hs : ∀ ad, A0 = some ad → ad.spot = none) (ha : Ahead L nl A0 c0) : Rd w' L nl cl last := by
  obtain ⟨h1, h2, h3, h4⟩ := hr
  refine ⟨h1, h2, h3, ?_⟩
  rcases h4 with h4 | ⟨b, off, hL, hat⟩
  · exact .inl h4
  · refine .inr ⟨b, off, hL, Nat.lt_of_lt_of_le hat.1 hG.turn.size, fun k x hk => ?_⟩
    have hc := hat.2 k x hk
    have hkl : k < last.length := by
      rcases Nat.lt_or_ge k last.length with h | h
      · exact h
      · rw [List.getElem?_eq_none h] at hk; cases hk
    by_cases hb : ∃ ad, A0 = some ad ∧ ad.block = b
    · obtain ⟨ad, e1, e2⟩ := hb
      have hsp := hs ad e1
      obtain ⟨g, o, sp⟩ := ad
      simp only at hsp e2
      subst hsp e2
      refine hG.keep g o e1 _ _ ?_ hc
      rcases ha _ _ hL e1 rfl with h9 | h9
      · exact .inr h9
      · left; simp only at h9; omega
    · refine cell_turn hc hG.turn (fun hm => ?_)
      cases A0 with
      | none => simp at hm
      | some ad => simp at hm; exact hb ⟨ad, rfl, hm.symm⟩
theorem BkW.grow {w w' : World} {x : BX} {W L A : Option Addr} {m cw nl cl n c : Nat} {wait last l : List UInt8} (h : BkW w x W m cw wait L nl cl last) (hG : GrewO 0 w w' W m cw A n c l) : BkC w' x W m cw L nl cl last := by
  have hn : ∀ g, g = x.c ∨ g = x.K ∨ g = x.d → g ∉ (W.map Addr.block).toList := fun g hg hm => by
    cases W with
    | none => simp at hm
    | some ad =>
      simp at hm
      have := h.sep ad rfl
      rcases hg with rfl | rfl | rfl <;> simp [hm] at this
  exact ⟨h.bkc.blk.turn hG.turn (hn _ (.inr (.inr rfl))), h.bkc.cip.turn hG.turn (hn _ (.inl rfl)) (hn _ (.inr (.inl rfl))), h.bkc.last.keepO hG h.wait.rd.spot h.ahead, h.bkc.l16⟩
set_option maxHeartbeats 2000000 in
theorem endB_any (x : BX) (W : Option Addr) (m cw : Nat) (wait : List UInt8) (L : Option Addr) (nl cl : Nat) (last : List UInt8) (w : World) (h : BkW w x W m cw wait L nl cl last) (hm3 : x.mode = 1 ∨ x.mode = 2 ∨ x.mode = 3) (hmw : x.mode = 3 → x.enc = true → m < 16) (hm1 : m ≤ 100000) :
    Calls Try.prog 45 #[.pointer (some ⟨x.d, 0, none⟩)] w (EndB w x W (endB x.mode x.enc x.E x.D last wait)) := by
  have y0 := h.bkc.c0
  have y1 := h.bkc.c1
  have y4 := h.bkc.c4
  have hml := h.wait.rd.1
  by_cases hm : x.mode = 3
  · rw [hm, show ((3 : Nat) : Int) = 3 from rfl] at y0
    cases he : x.enc with
    | true =>
      rw [he] at y1
      have hm16 : m < 16 := hmw hm he
      obtain ⟨k, hk⟩ : ∃ k, 16 - m = k := ⟨_, rfl⟩
      have hk1 : 1 ≤ k := by omega
      have hk16 : k ≤ 16 := by omega
      have hsub : IntKind.i64.wrap (16 - (m : Int)) = ((k : Nat) : Int) := by rw [IntWalk.i64_in _ (by omega)]; omega
      have hres : endB x.mode x.enc x.E x.D last wait = ((blkF x.mode x.enc x.E x.D last (wait ++ List.replicate k (UInt8.ofNat k))).1, 0) := by unfold endB; rw [if_pos hm, he, if_pos rfl, ← hml, hk]
      rw [← he, hres]
      have hcb := fun W : World => conv_i8 k (by omega) W
      have hsep : x.d ∉ (W.map Addr.block).toList := fun hm => by
        cases W with
        | none => simp at hm
        | some ad => simp at hm; exact (h.sep ad rfl).2.2 hm.symm
      have HH := Lib.hid (And.intro h (And.intro hml (And.intro hk hsep)))
      clear h hm he hmw hml hk hres hm3 hsep
      go_enter Try.func45, Try.ntmps45
      go_wp2_with fail
      refine region_wordM (fun w' => Turn (x.d :: (W.map Addr.block).toList) w w' ∧ w'.cell? ⟨x.d, 4, none⟩ = some (.slice W m cw)) (by kernel_rfl) ⟨Turn.drew (Turn.refl _ _), y4⟩ (fun hOd hHeld => ?_)
      obtain ⟨wd, hwd⟩ : ∃ wd, w.drew = wd := ⟨_, rfl⟩
      rw [hwd] at hOd hHeld ⊢
      refine takeL (i := 0) (v := ?_) rfl (by kernel_rfl) (by kernel_rfl) (by kernel_rfl) (fun _ _ _ h => h) (Or.inl ⟨by rfl, ?_⟩) hHeld ?_
      rotate_left
      focus (intro wq hSw; clear hSw; go_simp; try with_reducible rfl)
      try simp only [Act.put, List.setIfInBounds_toArray, List.set_cons_zero, List.set_cons_succ]
      refine takeL (i := 1) (v := ?_) rfl (by kernel_rfl) (by kernel_rfl) (by kernel_rfl) (fun _ _ _ h => h) (Or.inl ⟨by rfl, ?_⟩) hHeld ?_
      rotate_left
      focus (intro wq hSw; clear hSw; go_simp; try with_reducible rfl)
      try simp only [Act.put, List.setIfInBounds_toArray, List.set_cons_zero, List.set_cons_succ]
      refine takeL (i := 2) (v := ?_) rfl (by kernel_rfl) (by kernel_rfl) (by kernel_rfl) (fun _ _ _ h => h) (Or.inl ⟨by rfl, ?_⟩) hHeld ?_
      rotate_left
      focus (intro wq hSw; clear hSw; go_simp; try with_reducible rfl)
      try simp only [Act.put, List.setIfInBounds_toArray, List.set_cons_zero, List.set_cons_succ]
      refine takeL (i := 3) (v := ?_) rfl (by kernel_rfl) (by kernel_rfl) (by kernel_rfl) (fun _ _ _ h => h) (Or.inl ⟨by rfl, ?_⟩) hHeld ?_
      rotate_left
      focus (intro wq hSw; clear hSw; go_simp; try with_reducible rfl)
      try simp only [Act.put, List.setIfInBounds_toArray, List.set_cons_zero, List.set_cons_succ]
      refine takeL (i := 4) (v := ?_) rfl (by kernel_rfl) (by kernel_rfl) (by kernel_rfl) (fun _ _ _ h => h) (Or.inl ⟨by rfl, ?_⟩) hHeld ?_
      rotate_left
      focus (intro wq hSw; have q4 := hSw.2; clear hSw; go_simp; try with_reducible rfl)
      try simp only [Act.put, List.setIfInBounds_toArray, List.set_cons_zero, List.set_cons_succ]
      refine takeL (i := 5) (v := ?_) rfl (by kernel_rfl) (by kernel_rfl) (by kernel_rfl) (fun _ _ _ h => h) (Or.inl ⟨by rfl, ?_⟩) hHeld ?_
      rotate_left
      focus (intro wq hSw; clear hSw; go_simp; try with_reducible rfl)
      try simp only [Act.put, List.setIfInBounds_toArray, List.set_cons_zero, List.set_cons_succ]
      refine takeL (i := 6) (v := ?_) rfl (by kernel_rfl) (by kernel_rfl) (by kernel_rfl) (fun _ _ _ h => h) (Or.inl ⟨by rfl, ?_⟩) hHeld ?_
      rotate_left
      focus (intro wq hSw; have hc8 := hcb wq; clear hSw; go_simp; try with_reducible rfl)
      try simp only [Act.put, List.setIfInBounds_toArray, List.set_cons_zero, List.set_cons_succ]
      refine takeL (i := 8) (v := ?_) rfl (by kernel_rfl) (by kernel_rfl) (by kernel_rfl) (fun _ _ _ h => h) (Or.inl ⟨by rfl, ?_⟩) hHeld ?_
      rotate_left
      focus (intro wq hSw; clear hSw; go_simp; try with_reducible rfl)
      try simp only [Act.put, List.setIfInBounds_toArray, List.set_cons_zero, List.set_cons_succ]
      refine wpAnyH_ready (rs := [7]) (by kernel_rfl) (by simp) ?_
      refine consL rfl (fun K hK => ?_) AllReadyH.nil
      go_simp
      refine hK.out _ _ ⟨Turn.alloc hHeld.1 _, cellOld' ((Old.refl _).alloc _) hHeld.2⟩ (fun hHeld => ?_)
      clear hK K
      try simp only [Act.put, List.setIfInBounds_toArray, List.set_cons_zero, List.set_cons_succ]
      refine wpAnyH_ready (rs := [9]) (by kernel_rfl) (by simp) ?_
      refine consL rfl (fun K hK => ?_) AllReadyH.nil
      go_simp
      refine (repeat_any (UInt8.ofNat k) k hk1 (by omega) _ 1 _ (rd_lit (w := wd) (l2 := [UInt8.ofNat k]) rfl rfl (by simp))).mono ?_
      rintro e wa ⟨gw, rfl, hRw, hgw, hBw⟩
      refine hK.out _ _ ⟨(Turn.alloc (Turn.of_below _ hOd) _).trans (Turn.of_below [] hBw) (by simp), cellOld' ((Old.alloc hOd _).trans hBw) y4⟩ (fun hHeld => ?_)
      clear hK K
      try simp only [Act.put, List.setIfInBounds_toArray, List.set_cons_zero, List.set_cons_succ]
      refine wpAnyH_ready (rs := [10]) (by kernel_rfl) (by simp) ?_
      refine consL rfl (fun K hK => ?_) AllReadyH.nil
      have hOa : Old w wa := (Old.alloc hOd _).trans hBw
      refine step_app_O (.tmp 61) (.tmp 66) 0 W m cw wait (HH.out.1.wait.below hOa) (Nat.zero_le _) _ k k _ hRw (by have := HH.out.2.1; simp; omega) rfl rfl rfl rfl (fun A5 n5 c5 wb hG => ?_)
      have hC5 := (HH.out.1.below hOa).grow hG
      refine hK.out _ _ ⟨(Turn.of_below _ hOa).trans hG.turn (fun y hy => .inl (by simp [hy])), hC5.c4⟩ (fun hHeld => ?_)
      clear hK K
      have hn5 : n5 = 16 := by have := hG.len; have := HH.out.2.1; have := HH.out.2.2.1; simp at *; omega
      subst hn5
      try simp only [Act.put, List.setIfInBounds_toArray, List.set_cons_zero, List.set_cons_succ]
      refine wpAnyH_ready (rs := [11]) (by kernel_rfl) (by simp) ?_
      refine consL rfl (fun K hK => ?_) AllReadyH.nil
      go_simp
      refine (block_any x W m cw L nl cl last A5 c5 _ wb hC5 hG.own.rd).mono ?_
      rintro e w6 ⟨A6, c6, rfl, hres⟩
      have HR := Lib.hid (And.intro hHeld.1 hres)
      have hq4 : w6.cell? ⟨x.d, 4, none⟩ = some (.slice W m cw) := by obtain ⟨_, _, _, hC, _⟩ := hres.next; exact hC.c4
      have hq5 : Turn (x.d :: (W.map Addr.block).toList) w w6 := hHeld.1.trans hres.turn (fun y hy => .inl (by simp at hy; simp [hy]))
      refine hK.out _ _ ⟨hq5, hq4⟩ (fun hHeld => ?_)
      clear hK K
      try simp only [Act.put, List.setIfInBounds_toArray, List.set_cons_zero, List.set_cons_succ]
      refine wpAnyH_ready (rs := [12]) (by kernel_rfl) (by simp) ?_
      refine consL rfl (fun K hK => ?_) AllReadyH.nil
      go_simp
      refine hK.out _ _ hHeld (fun hHeld => ?_)
      clear hK K
      try simp only [Act.put, List.setIfInBounds_toArray, List.set_cons_zero, List.set_cons_succ]
      refine wpAnyH_ready (rs := [13]) (by kernel_rfl) (by simp) ?_
      refine consL rfl (fun K hK => ?_) AllReadyH.nil
      go_simp
      refine hK.out _ _ hHeld (fun hHeld => ?_)
      clear hK K
      try simp only [Act.put, List.setIfInBounds_toArray, List.set_cons_zero, List.set_cons_succ]
      refine wpAnyH_done (by kernel_rfl) ?_ _
      refine NoPanic.normal ?_
      simp only [Exit.then]
      try go_at_K
      go_wp2_with fail
      refine bodyPost_ret (results_tmp2 rfl _ _ _) rfl ?_
      obtain ⟨L', nl', cl', hC, _⟩ := HR.out.2.next
      exact ⟨_, _, _, rfl, HR.out.2.out, ⟨_, _, _, _, _, _, _, hC⟩, HR.out.1.trans HR.out.2.turn (fun y hy => .inl (by simp at hy; simp [hy])), Nat.le_refl _⟩
    | false =>
      rw [he] at y1
      have hcall := stripped_any x W m cw wait L nl cl last w h hm he
      rw [he] at hcall
      have HH := Lib.hid hcall
      clear h hm he hmw hml hcall hm3
      go_enter Try.func45, Try.ntmps45
      go_wp2_with fail
      refine HH.out.mono ?_
      rintro e w1 ⟨A, n, c, rfl, h1, h2, h3⟩
      have HR := Lib.hid (And.intro h1 (And.intro h2 h3))
      clear h1 h2 h3
      go_wp2_with fail
      refine bodyPost_ret (results_tmp2 rfl _ _ _) rfl ?_
      exact ⟨_, _, _, rfl, HR.out.1, HR.out.2.1, HR.out.2.2⟩
  · have h30 : ((x.mode : Int) == 3) = false := by simp; omega
    have h31 : ¬ (x.mode : Int) = 3 := by omega
    have h40 : ((x.mode : Int) == 4) = false := by simp; omega
    have h41 : ¬ (x.mode : Int) = 4 := by omega
    have h50 : ((x.mode : Int) == 5) = false := by simp; omega
    have h51 : ¬ (x.mode : Int) = 5 := by omega
    by_cases hz : m = 0
    · subst hz
      have hw : wait = [] := List.length_eq_zero_iff.1 hml.symm
      have hres : endB x.mode x.enc x.E x.D last wait = ([], 0) := by unfold endB; rw [if_neg hm, if_pos hw]
      rw [hres]
      have HH := Lib.hid h
      clear h hm hml hm3 hres hmw hw
      go_enter Try.func45, Try.ntmps45
      go_wp2_with fail
      refine bodyPost_ret (results_tmp2 rfl _ _ _) rfl ?_
      exact EndB.nil HH.out.bkc 0
    · have hz0 : ((m : Int) == 0) = false := by simp; omega
      have hz1 : ¬ (m : Int) = 0 := by omega
      have hw : wait ≠ [] := fun e => by rw [e] at hml; simp at hml; omega
      cases he : x.enc with
      | true =>
        rw [he] at y1
        have hres : endB x.mode x.enc x.E x.D last wait = ([], 33) := by unfold endB; rw [if_neg hm, if_neg hw, he, if_pos rfl]
        rw [← he, hres]
        have HH := Lib.hid h
        clear h hm hml hm3 hres hmw hw he hz
        go_enter Try.func45, Try.ntmps45
        go_wp2_with fail
        refine bodyPost_ret (results_tmp2 rfl _ _ _) rfl ?_
        exact EndB.nil HH.out.bkc 33
      | false =>
        rw [he] at y1
        have hres : endB x.mode x.enc x.E x.D last wait = ([], 65) := by unfold endB; rw [if_neg hm, if_neg hw, he, if_neg (by decide)]
        rw [← he, hres]
        have HH := Lib.hid h
        clear h hm hml hm3 hres hmw hw he hz
        go_enter Try.func45, Try.ntmps45
        go_wp2_with fail
        refine bodyPost_ret (results_tmp2 rfl _ _ _) rfl ?_
        exact EndB.nil HH.out.bkc 65
end Go.Proofs.Ytiocmebcbhbcmaa
namespace Go.Proofs.Ytiocmebcbhbcmaa
set_option maxRecDepth 100000
open Go.RowKit

/-- The tag of a ciphertext. -/
def tagL (E : List UInt8 → List UInt8) (data out mask : List UInt8) : List UInt8 :=
  xorL (gh (E (zs 16)) (data ++ zs (padM data.length) ++ (out ++ zs (padM out.length)) ++ lenL data.length out.length)) mask
theorem padM_le (k : Nat) : padM k ≤ 15 := by unfold padM; omega
theorem Own.rdO {w w' : World} {base n c : Nat} {A : Option Addr} {l : List UInt8} (h : Own w base (.slice A n c) l) (hb : Old w w') : Rd w' A n c l := h.rd.below hb
set_option maxHeartbeats 1000000 in
theorem hash_any (d c kb R cp : Nat) (ks : List UInt8) (cs : Array Value) (w : World) (h : Blk w d 59 cs) (h2 : cs[2]? = some (.pointer (some ⟨c, 0, none⟩))) (hc : Cip w 0 c ks kb R cp) :
    Calls Try.prog 79 #[.pointer (some ⟨d, 0, none⟩)] w fun e w' => ∃ sb : Nat, e = .returned (.slice (some ⟨sb, 0, none⟩) 16 16) ∧ St w' sb (encL ks R (zs 16)) ∧ Old w w' ∧ w.heap.size ≤ sb := by
  have y2 := h.cell 2
  rw [h2] at y2
  have HH := Lib.hid (And.intro hc h)
  have q2 : ∀ W, Old w W → W.cell? ⟨d, 2, none⟩ = some (.pointer (some ⟨c, 0, none⟩)) := fun W hO => cellOld' hO y2
  have HQ := Lib.hid q2
  clear h h2 hc y2 q2
  go_enter Try.func79, Try.ntmps79
  go_wp2_with fail
  refine region_old (by kernel_rfl) (fun wd hHeld hSz => ?_)
  have HSz := Lib.hid hSz
  clear hSz
  have hOd := hHeld
  refine takeL (i := 0) (v := ?_) rfl (by kernel_rfl) (by kernel_rfl) (by kernel_rfl) (fun _ _ _ h => h) (Or.inl ⟨by rfl, ?_⟩) hHeld ?_
  rotate_left
  focus (intro wq hSw; clear hSw; go_simp; try with_reducible rfl)
  try simp only [Act.put, List.setIfInBounds_toArray, List.set_cons_zero, List.set_cons_succ]
  refine takeL (i := 1) (v := ?_) rfl (by kernel_rfl) (by kernel_rfl) (by kernel_rfl) (fun _ _ _ h => h) (Or.inl ⟨by rfl, ?_⟩) hHeld ?_
  rotate_left
  focus (intro wq hSw; clear hSw; go_simp; try with_reducible rfl)
  try simp only [Act.put, List.setIfInBounds_toArray, List.set_cons_zero, List.set_cons_succ]
  refine takeL (i := 2) (v := ?_) rfl (by kernel_rfl) (by kernel_rfl) (by kernel_rfl) (fun _ _ _ h => h) (Or.inl ⟨by rfl, ?_⟩) hHeld ?_
  rotate_left
  focus (intro wq hSw; clear hSw; go_simp; try with_reducible rfl)
  try simp only [Act.put, List.setIfInBounds_toArray, List.set_cons_zero, List.set_cons_succ]
  refine takeL (i := 3) (v := ?_) rfl (by kernel_rfl) (by kernel_rfl) (by kernel_rfl) (fun _ _ _ h => h) (Or.inl ⟨by rfl, ?_⟩) hHeld ?_
  rotate_left
  focus (intro wq hSw; have r2 := HQ.out wq hSw; clear hSw; go_simp; try with_reducible rfl)
  try simp only [Act.put, List.setIfInBounds_toArray, List.set_cons_zero, List.set_cons_succ]
  refine wpAnyH_ready (rs := [4]) (by kernel_rfl) (by simp) ?_
  refine consL rfl (fun K hK => ?_) AllReadyH.nil
  have hmk := Try.prog_make 16 (by omega) wd
  obtain ⟨w1, hw1⟩ : ∃ w1, wd.alloc (.cells (madeCells #[.int .u8 0] 16) 5) = w1 := ⟨_, rfl⟩
  have hO1 : Own w1 wd.heap.size (.slice (some ⟨wd.heap.size, 0, none⟩) 16 16) (zs 16) := by rw [← hw1]; exact Own.made wd 16 (by unfold maxLen; omega)
  have hB1 : Old wd w1 := by rw [← hw1]; exact (Old.refl _).alloc _
  rw [hw1, show ((16 : Nat) : Int) = 16 from rfl] at hmk
  clear hw1
  go_simp
  refine hK.out _ _ (hHeld.trans hB1) (fun hHeld => ?_)
  clear hK K hmk
  try simp only [Act.put, List.setIfInBounds_toArray, List.set_cons_zero, List.set_cons_succ]
  refine wpAnyH_ready (rs := [5]) (by kernel_rfl) (by simp) ?_
  refine consL rfl (fun K hK => ?_) AllReadyH.nil
  go_simp
  refine (enc_any 0 c ks kb R cp _ _ _ w1 (HH.out.1.below (hOd.trans hB1)) hO1.rd).mono ?_
  rintro e w2 ⟨sb, rfl, hsb, hS, hB⟩
  refine hK.out _ _ (hHeld.trans hB) (fun hHeld => ?_)
  clear hK K
  try simp only [Act.put, List.setIfInBounds_toArray, List.set_cons_zero, List.set_cons_succ]
  refine takeL (i := 6) (v := ?_) rfl (by kernel_rfl) (by kernel_rfl) (by kernel_rfl) (fun _ _ _ h => h) (Or.inl ⟨by rfl, ?_⟩) hHeld ?_
  rotate_left
  focus (intro wq hSw; clear hSw; go_simp; try with_reducible rfl)
  try simp only [Act.put, List.setIfInBounds_toArray, List.set_cons_zero, List.set_cons_succ]
  refine wpAnyH_done (by kernel_rfl) ?_ _
  refine NoPanic.normal ?_
  have HR := Lib.hid (And.intro hS (And.intro ((hOd.trans hB1).trans hB) (Nat.le_trans (Nat.le_trans hOd.size hB1.size) hsb)))
  clear hsb hS hB hOd hB1 hO1 hHeld
  simp only [Exit.then]
  try go_at_K
  go_wp2_with fail
  go_ret
  exact ⟨sb, rfl, HR.out.1, HR.out.2.1, HR.out.2.2⟩
theorem Old.trans_below {w w1 w2 : World} (h : Old w w1) (hb : Below w.heap.size w1 w2) : Old w w2 := Below.trans h hb
set_option maxHeartbeats 2000000 in
theorem tag_any (d c kb R cp : Nat) (ks : List UInt8) (cs : Array Value) (M D A : Option Addr) (nm cm nd cd n cn : Nat) (mask data out : List UInt8) (w : World) (h : Blk w d 59 cs) (h2 : cs[2]? = some (.pointer (some ⟨c, 0, none⟩))) (h8 : cs[8]? = some (.slice M nm cm)) (h9 : cs[9]? = some (.slice D nd cd))
    (hc : Cip w 0 c ks kb R cp) (hM : Rd w M nm cm mask) (h16 : nm = 16) (hD : Rd w D nd cd data) (hA : Rd w A n cn out) (hd : nd ≤ 100000) (hn : n ≤ 100000) :
    Calls Try.prog 68 #[.pointer (some ⟨d, 0, none⟩), .slice A n cn] w fun e w' => ∃ A' c', e = .returned (.slice A' 16 c') ∧ Own w' w.heap.size (.slice A' 16 c') (tagL (encL ks R) data out mask) ∧ Old w w' := by
  have hdl := hD.1
  have hol := hA.1
  have q8 : ∀ W, Old w W → W.cell? ⟨d, 8, none⟩ = some (.slice M nm cm) := fun W hO => by rw [(h.below hO).cell]; exact h8
  have q9 : ∀ W, Old w W → W.cell? ⟨d, 9, none⟩ = some (.slice D nd cd) := fun W hO => by rw [(h.below hO).cell]; exact h9
  have HH := Lib.hid (And.intro h (And.intro h2 (And.intro hc (And.intro hM (And.intro hD (And.intro hA (And.intro hdl (And.intro hol (And.intro q8 q9)))))))))
  clear h h2 h8 h9 hc hM hD hA hdl hol q8 q9
  subst h16
  go_enter Try.func68, Try.ntmps68
  go_wp2_with fail
  refine region_old (by kernel_rfl) (fun wd hHeld hSz => ?_)
  have HSz := Lib.hid hSz
  clear hSz
  have hOd := hHeld
  refine takeL (i := 0) (v := ?_) rfl (by kernel_rfl) (by kernel_rfl) (by kernel_rfl) (fun _ _ _ h => h) (Or.inl ⟨by rfl, ?_⟩) hHeld ?_
  rotate_left
  focus (intro wq hSw; clear hSw; go_simp; try with_reducible rfl)
  try simp only [Act.put, List.setIfInBounds_toArray, List.set_cons_zero, List.set_cons_succ]
  refine takeL (i := 1) (v := ?_) rfl (by kernel_rfl) (by kernel_rfl) (by kernel_rfl) (fun _ _ _ h => h) (Or.inl ⟨by rfl, ?_⟩) hHeld ?_
  rotate_left
  focus (intro wq hSw; clear hSw; go_simp; try with_reducible rfl)
  try simp only [Act.put, List.setIfInBounds_toArray, List.set_cons_zero, List.set_cons_succ]
  refine takeL (i := 2) (v := ?_) rfl (by kernel_rfl) (by kernel_rfl) (by kernel_rfl) (fun _ _ _ h => h) (Or.inl ⟨by rfl, ?_⟩) hHeld ?_
  rotate_left
  focus (intro wq hSw; clear hSw; go_simp; try with_reducible rfl)
  try simp only [Act.put, List.setIfInBounds_toArray, List.set_cons_zero, List.set_cons_succ]
  refine takeL (i := 3) (v := ?_) rfl (by kernel_rfl) (by kernel_rfl) (by kernel_rfl) (fun _ _ _ h => h) (Or.inl ⟨by rfl, ?_⟩) hHeld ?_
  rotate_left
  focus (intro wq hSw; have r9 := HH.out.2.2.2.2.2.2.2.2.2 wq hSw; clear hSw; go_simp; try with_reducible rfl)
  try simp only [Act.put, List.setIfInBounds_toArray, List.set_cons_zero, List.set_cons_succ]
  refine takeL (i := 5) (v := ?_) rfl (by kernel_rfl) (by kernel_rfl) (by kernel_rfl) (fun _ _ _ h => h) (Or.inl ⟨by rfl, ?_⟩) hHeld ?_
  rotate_left
  focus (intro wq hSw; clear hSw; go_simp; try with_reducible rfl)
  try simp only [Act.put, List.setIfInBounds_toArray, List.set_cons_zero, List.set_cons_succ]
  refine takeL (i := 8) (v := ?_) rfl (by kernel_rfl) (by kernel_rfl) (by kernel_rfl) (fun _ _ _ h => h) (Or.inl ⟨by rfl, ?_⟩) hHeld ?_
  rotate_left
  focus (intro wq hSw; clear hSw; go_simp; try with_reducible rfl)
  try simp only [Act.put, List.setIfInBounds_toArray, List.set_cons_zero, List.set_cons_succ]
  refine takeL (i := 9) (v := ?_) rfl (by kernel_rfl) (by kernel_rfl) (by kernel_rfl) (fun _ _ _ h => h) (Or.inl ⟨by rfl, ?_⟩) hHeld ?_
  rotate_left
  focus (intro wq hSw; clear hSw; go_simp; try with_reducible rfl)
  try simp only [Act.put, List.setIfInBounds_toArray, List.set_cons_zero, List.set_cons_succ]
  refine takeL (i := 10) (v := ?_) rfl (by kernel_rfl) (by kernel_rfl) (by kernel_rfl) (fun _ _ _ h => h) (Or.inl ⟨by rfl, ?_⟩) hHeld ?_
  rotate_left
  focus (intro wq hSw; clear hSw; go_simp; try with_reducible rfl)
  try simp only [Act.put, List.setIfInBounds_toArray, List.set_cons_zero, List.set_cons_succ]
  refine takeL (i := 11) (v := ?_) rfl (by kernel_rfl) (by kernel_rfl) (by kernel_rfl) (fun _ _ _ h => h) (Or.inl ⟨by rfl, ?_⟩) hHeld ?_
  rotate_left
  focus (intro wq hSw; have r9 := HH.out.2.2.2.2.2.2.2.2.2 wq hSw; clear hSw; go_simp; try with_reducible rfl)
  try simp only [Act.put, List.setIfInBounds_toArray, List.set_cons_zero, List.set_cons_succ]
  refine takeL (i := 12) (v := ?_) rfl (by kernel_rfl) (by kernel_rfl) (by kernel_rfl) (fun _ _ _ h => h) (Or.inl ⟨by rfl, ?_⟩) hHeld ?_
  rotate_left
  focus (intro wq hSw; clear hSw; go_simp; try with_reducible rfl)
  try simp only [Act.put, List.setIfInBounds_toArray, List.set_cons_zero, List.set_cons_succ]
  refine takeL (i := 13) (v := ?_) rfl (by kernel_rfl) (by kernel_rfl) (by kernel_rfl) (fun _ _ _ h => h) (Or.inl ⟨by rfl, ?_⟩) hHeld ?_
  rotate_left
  focus (intro wq hSw; clear hSw; go_simp; try with_reducible rfl)
  try simp only [Act.put, List.setIfInBounds_toArray, List.set_cons_zero, List.set_cons_succ]
  refine takeL (i := 14) (v := ?_) rfl (by kernel_rfl) (by kernel_rfl) (by kernel_rfl) (fun _ _ _ h => h) (Or.inl ⟨by rfl, ?_⟩) hHeld ?_
  rotate_left
  focus (intro wq hSw; clear hSw; go_simp; try with_reducible rfl)
  try simp only [Act.put, List.setIfInBounds_toArray, List.set_cons_zero, List.set_cons_succ]
  refine wpAnyH_ready (rs := [4]) (by kernel_rfl) (by simp) ?_
  refine consL rfl (fun K hK => ?_) AllReadyH.nil
  go_simp
  refine (filled_any D nd cd data wd (HH.out.2.2.2.2.1.below hOd) (by have := HH.out.2.2.2.2.2.2.1; omega)).mono ?_
  rintro e w1 ⟨A1, n1, c1, rfl, ho1, hB1⟩
  refine hK.out _ _ (hHeld.trans hB1) (fun hHeld => ?_)
  clear hK K
  try simp only [Act.put, List.setIfInBounds_toArray, List.set_cons_zero, List.set_cons_succ]
  refine wpAnyH_ready (rs := [6]) (by kernel_rfl) (by simp) ?_
  refine consL rfl (fun K hK => ?_) AllReadyH.nil
  go_simp
  refine (filled_any A n cn out w1 ((HH.out.2.2.2.2.2.1.below hOd).below hB1) (by have := HH.out.2.2.2.2.2.2.2.1; omega)).mono ?_
  rintro e w2 ⟨A2, n2, c2, rfl, ho2, hB2⟩
  refine hK.out _ _ (hHeld.trans hB2) (fun hHeld => ?_)
  clear hK K
  try simp only [Act.put, List.setIfInBounds_toArray, List.set_cons_zero, List.set_cons_succ]
  refine wpAnyH_ready (rs := [7]) (by kernel_rfl) (by simp) ?_
  refine consL rfl (fun K hK => ?_) AllReadyH.nil
  have hd1 : data.length ≤ 100000 ∧ out.length ≤ 100000 := ⟨by have := HH.out.2.2.2.2.2.2.1; omega, by have := HH.out.2.2.2.2.2.2.2.1; omega⟩
  have hz : data ++ zs (padM data.length) ++ (out ++ zs (padM out.length)) ++ lenL nd n = data ++ zs (padM data.length) ++ (out ++ zs (padM out.length)) ++ lenL data.length out.length := by rw [HH.out.2.2.2.2.2.2.1, HH.out.2.2.2.2.2.2.2.1]
  refine step_app2 (.tmp 10) (.tmp 12) w.heap.size (.slice A1 n1 c1) _ ((ho1.mono hOd.size).below hB2) (Nat.le_trans hOd.size (Nat.le_trans hB1.size hB2.size)) A2 n2 c2 _ ho2.rd (by have a1 := padM_le data.length; have a2 := padM_le out.length; simp only [List.length_append, zs_len]; omega) rfl rfl rfl rfl (fun A3 n3 c3 w3 hn3 hG3 => ?_)
  have hO3 : Old w w3 := ((hOd.trans hB1).trans hB2).trans_below hG3.below
  refine hK.out _ _ hO3 (fun hHeld => ?_)
  clear hK K
  try simp only [Act.put, List.setIfInBounds_toArray, List.set_cons_zero, List.set_cons_succ]
  refine wpAnyH_ready (rs := [15]) (by kernel_rfl) (by simp) ?_
  refine consL rfl (fun K hK => ?_) AllReadyH.nil
  go_simp
  refine (lengths_any nd n w3 (by omega) (by omega)).mono ?_
  rintro e w4 ⟨v4, rfl, ho4, hB4⟩
  obtain ⟨A4, c4, rfl, _⟩ := ho4.shape
  refine hK.out _ _ (hHeld.trans hB4) (fun hHeld => ?_)
  clear hK K
  try simp only [Act.put, List.setIfInBounds_toArray, List.set_cons_zero, List.set_cons_succ]
  refine wpAnyH_ready (rs := [16]) (by kernel_rfl) (by simp) ?_
  refine consL rfl (fun K hK => ?_) AllReadyH.nil
  refine step_app2 (.tmp 13) (.tmp 21) w.heap.size (.slice A3 n3 c3) _ (hG3.own.below hB4) (Nat.le_trans hO3.size hB4.size) A4 (lenL nd n).length c4 _ ho4.rd (by have a1 := padM_le data.length; have a2 := padM_le out.length; simp only [List.length_append, zs_len, lenL, bytes64, List.length_cons, List.length_nil]; omega) rfl rfl rfl rfl (fun A5 n5 c5 w5 hn5 hG5 => ?_)
  have hO5 : Old w w5 := (hO3.trans hB4).trans_below hG5.below
  refine hK.out _ _ hO5 (fun hHeld => ?_)
  clear hK K
  try simp only [Act.put, List.setIfInBounds_toArray, List.set_cons_zero, List.set_cons_succ]
  refine takeL (i := 17) (v := ?_) rfl (by kernel_rfl) (by kernel_rfl) (by kernel_rfl) (fun _ _ _ h => h) (Or.inl ⟨by rfl, ?_⟩) hHeld ?_
  rotate_left
  focus (intro wq hSw; clear hSw; go_simp; try with_reducible rfl)
  try simp only [Act.put, List.setIfInBounds_toArray, List.set_cons_zero, List.set_cons_succ]
  refine wpAnyH_done (by kernel_rfl) ?_ _
  refine NoPanic.normal ?_
  have HX := Lib.hid (And.intro hG5.own (And.intro hO5 hz))
  clear hd1 ho1 hB1 ho2 hB2 hG3 hO3 ho4 hB4 hG5 hO5 hHeld hOd HSz hz
  simp only [Exit.then]
  try go_at_K
  go_wp2_with fail
  refine region_old (by kernel_rfl) (fun wd hHeld hSz => ?_)
  have HSz := Lib.hid hSz
  clear hSz
  have hOd := hHeld
  refine takeL (i := 0) (v := ?_) rfl (by kernel_rfl) (by kernel_rfl) (by kernel_rfl) (fun _ _ _ h => h) (Or.inl ⟨by rfl, ?_⟩) hHeld ?_
  rotate_left
  focus (intro wq hSw; clear hSw; go_simp; try with_reducible rfl)
  try simp only [Act.put, List.setIfInBounds_toArray, List.set_cons_zero, List.set_cons_succ]
  refine takeL (i := 2) (v := ?_) rfl (by kernel_rfl) (by kernel_rfl) (by kernel_rfl) (fun _ _ _ h => h) (Or.inl ⟨by rfl, ?_⟩) hHeld ?_
  rotate_left
  focus (intro wq hSw; clear hSw; go_simp; try with_reducible rfl)
  try simp only [Act.put, List.setIfInBounds_toArray, List.set_cons_zero, List.set_cons_succ]
  refine takeL (i := 4) (v := ?_) rfl (by kernel_rfl) (by kernel_rfl) (by kernel_rfl) (fun _ _ _ h => h) (Or.inl ⟨by rfl, ?_⟩) hHeld ?_
  rotate_left
  focus (intro wq hSw; clear hSw; go_simp; try with_reducible rfl)
  try simp only [Act.put, List.setIfInBounds_toArray, List.set_cons_zero, List.set_cons_succ]
  refine takeL (i := 5) (v := ?_) rfl (by kernel_rfl) (by kernel_rfl) (by kernel_rfl) (fun _ _ _ h => h) (Or.inl ⟨by rfl, ?_⟩) hHeld ?_
  rotate_left
  focus (intro wq hSw; clear hSw; go_simp; try with_reducible rfl)
  try simp only [Act.put, List.setIfInBounds_toArray, List.set_cons_zero, List.set_cons_succ]
  refine takeL (i := 6) (v := ?_) rfl (by kernel_rfl) (by kernel_rfl) (by kernel_rfl) (fun _ _ _ h => h) (Or.inl ⟨by rfl, ?_⟩) hHeld ?_
  rotate_left
  focus (intro wq hSw; clear hSw; go_simp; try with_reducible rfl)
  try simp only [Act.put, List.setIfInBounds_toArray, List.set_cons_zero, List.set_cons_succ]
  refine takeL (i := 7) (v := ?_) rfl (by kernel_rfl) (by kernel_rfl) (by kernel_rfl) (fun _ _ _ h => h) (Or.inl ⟨by rfl, ?_⟩) hHeld ?_
  rotate_left
  focus (intro wq hSw; have r8 := HH.out.2.2.2.2.2.2.2.2.1 wq (HX.out.2.1.trans hSw); clear hSw; go_simp; try with_reducible rfl)
  try simp only [Act.put, List.setIfInBounds_toArray, List.set_cons_zero, List.set_cons_succ]
  refine wpAnyH_ready (rs := [1]) (by kernel_rfl) (by simp) ?_
  refine consL rfl (fun K hK => ?_) AllReadyH.nil
  go_simp
  refine (hash_any d c kb R cp ks cs wd ((HH.out.1.below HX.out.2.1).below hOd) HH.out.2.1 ((HH.out.2.2.1.below HX.out.2.1).below hOd)).mono ?_
  rintro e w7 ⟨sb, rfl, hS7, hB7, hsb7⟩
  refine hK.out _ _ (hHeld.trans hB7) (fun hHeld => ?_)
  clear hK K
  try simp only [Act.put, List.setIfInBounds_toArray, List.set_cons_zero, List.set_cons_succ]
  refine wpAnyH_ready (rs := [3]) (by kernel_rfl) (by simp) ?_
  refine consL rfl (fun K hK => ?_) AllReadyH.nil
  go_simp
  refine (gh_any _ _ _ _ _ _ _ w7 hS7.rd ((HX.out.1.below hOd).below hB7).rd).mono ?_
  rintro e w8 ⟨g8, c8, rfl, ho8, hB8⟩
  refine hK.out _ _ (hHeld.trans hB8) (fun hHeld => ?_)
  clear hK K
  try simp only [Act.put, List.setIfInBounds_toArray, List.set_cons_zero, List.set_cons_succ]
  refine wpAnyH_ready (rs := [8]) (by kernel_rfl) (by simp) ?_
  refine consL rfl (fun K hK => ?_) AllReadyH.nil
  go_simp
  have hsz9 : w.heap.size ≤ w8.heap.size := Nat.le_trans HX.out.2.1.size (Nat.le_trans hOd.size (Nat.le_trans hB7.size hB8.size))
  refine (xored_any _ M 16 c8 16 cm _ mask w8 ho8.rd ((((HH.out.2.2.2.1.below HX.out.2.1).below hOd).below hB7).below hB8) (Nat.le_refl _) (by omega)).mono ?_
  rintro e w9 ⟨rfl, hO9, hB9⟩
  refine hK.out _ _ (hHeld.trans hB9) (fun hHeld => ?_)
  clear hK K
  try simp only [Act.put, List.setIfInBounds_toArray, List.set_cons_zero, List.set_cons_succ]
  refine takeL (i := 9) (v := ?_) rfl (by kernel_rfl) (by kernel_rfl) (by kernel_rfl) (fun _ _ _ h => h) (Or.inl ⟨by rfl, ?_⟩) hHeld ?_
  rotate_left
  focus (intro wq hSw; clear hSw; go_simp; try with_reducible rfl)
  try simp only [Act.put, List.setIfInBounds_toArray, List.set_cons_zero, List.set_cons_succ]
  refine wpAnyH_done (by kernel_rfl) ?_ _
  refine NoPanic.normal ?_
  have HY := Lib.hid (And.intro hO9 (And.intro ((((HX.out.2.1.trans hOd).trans hB7).trans hB8).trans hB9) hsz9))
  clear hO9 hB9 hB8 hB7 hHeld hOd HSz
  simp only [Exit.then]
  try go_at_K
  go_wp2_with fail
  go_ret
  refine ⟨_, _, rfl, ?_, HY.out.2.1⟩
  have := HY.out.1.mono HY.out.2.2
  rw [HX.out.2.2] at this
  exact this
end Go.Proofs.Ytiocmebcbhbcmaa
