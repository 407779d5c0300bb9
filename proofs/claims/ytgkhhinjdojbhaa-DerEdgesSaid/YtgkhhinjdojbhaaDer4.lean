/-
  DER: nodes in memory; 'may'.
-/
import Derived.Test.YtgkhhinjdojbhaaDerA
namespace Go.Proofs.Ytgkhhinjdojbhaa
open Go.RowKit

/-- A node's own cells. -/
structure NF where
  tag : Int
  A1 : Option Addr
  m1 : Nat
  c1 : Nat
  A2 : Option Addr
  m2 : Nat
  c2 : Nat
def NF.cells (x : NF) : List Value := [.int .i64 x.tag, .slice x.A1 x.m1 x.c1, .slice x.A2 x.m2 x.c2]
def NF.val (x : NF) : Value := .agg #[.int .i64 x.tag, .slice x.A1 x.m1 x.c1, .slice x.A2 x.m2 x.c2]
def Try.eN : ETy NF where
  t := 25
  ts := 23
  sz := 3
  bytes := 56
  z := .agg #[.int .i64 0, .slice none 0 0, .slice none 0 0]
  cells := NF.cells
  len := fun _ => rfl
  one := fun x u hu => by simp [NF.cells] at hu; rcases hu with rfl | rfl | rfl <;> rfl
  pos := by decide
  zsz := rfl
  small := by decide
  und := Try.underlying23
  info := by kernel_rfl
/-- A node is read: its blocks are such as P says, its own cells such as Z says. -/
inductive NdR (P : Nat → Prop) (Z : NF → Prop) (W : World) : NF → Nd → Prop
  | mk (f : NF) (bs : List UInt8) (fs : List NF) (ks : List Nd) : Rd W f.A1 f.m1 f.c1 bs → (∀ a, f.A1 = some a → P a.block) → RdC Try.eN W f.A2 f.m2 fs → f.m2 ≤ maxLen → (∀ a, f.A2 = some a → P a.block) → Z f →
      fs.length = ks.length → (∀ (j : Nat) (g : NF) (k : Nd), fs[j]? = some g → ks[j]? = some k → NdR P Z W g k) → NdR P Z W f (.mk f.tag bs ks)
section
variable {P : Nat → Prop} {Z : NF → Prop} {W W' : World} {f : NF} {n : Nd}
theorem NdR.keep (h : NdR P Z W f n) (hs : W.heap.size ≤ W'.heap.size) (hk : ∀ b, P b → W'.heap[b]? = W.heap[b]?) : NdR P Z W' f n := by
  induction h with
  | mk f bs fs ks h1 h2 h3 h4 h5 h6 h7 h8 ih =>
    exact .mk f bs fs ks (h1.keep hs (fun a ha => hk _ (h2 a ha))) h2 (h3.keep hs (fun a ha => hk _ (h5 a ha))) h4 h5 h6 h7 (fun j g k hg hk' => ih j g k hg hk')
theorem NdR.mono {P' : Nat → Prop} {Z' : NF → Prop} (h : NdR P Z W f n) (hp : ∀ b, P b → P' b) (hz : ∀ x, Z x → Z' x) : NdR P' Z' W f n := by
  induction h with
  | mk f bs fs ks h1 h2 h3 h4 h5 h6 h7 h8 ih =>
    exact .mk f bs fs ks h1 (fun a ha => hp _ (h2 a ha)) h3 h4 (fun a ha => hp _ (h5 a ha)) (hz _ h6) h7 (fun j g k hg hk' => ih j g k hg hk')
theorem NdR.turn (h : NdR P Z W f n) {S : List Nat} (ht : Turn S W W') (hd : ∀ b, P b → b < W.heap.size ∧ b ∉ S) : NdR P Z W' f n :=
  h.keep ht.size (fun b hb => ht.block b (hd b hb).1 (hd b hb).2)
theorem NdR.bel (h : NdR P Z W f n) (hb : Below W.heap.size W W') (hd : ∀ b, P b → b < W.heap.size) : NdR P Z W' f n :=
  h.keep hb.size (fun b hp => hb.block b (hd b hp))
end
theorem node_at {W : World} {A : Option Addr} {m : Nat} {l : List NF} (h : RdC Try.eN W A m l) {j : Nat} {x : NF} (hj : l[j]? = some x) :
    ∃ g off, A = some ⟨g, off, none⟩ ∧ W.cell? ⟨g, off + j * 3, none⟩ = some (.int .i64 x.tag) ∧ W.cell? ⟨g, off + j * 3 + 1, none⟩ = some (.slice x.A1 x.m1 x.c1) ∧ W.cell? ⟨g, off + j * 3 + 2, none⟩ = some (.slice x.A2 x.m2 x.c2) := by
  obtain ⟨g, off, hA, hg, hc⟩ := h.at_ hj
  refine ⟨g, off, hA, ?_, ?_, ?_⟩
  · have := hc 0 (by decide); exact this
  · have := hc 1 (by decide); exact this
  · have := hc 2 (by decide); exact this
theorem mayAll_step {d : Nat} {left : Int} {ks : List Nd} {j : Nat} {k : Nd} (hj : ks[j]? = some k) : mayAll d left (ks.drop j) = if (k.mayW d left).1 then mayAll d (k.mayW d left).2 (ks.drop (j + 1)) else (false, (k.mayW d left).2) := by
  obtain ⟨hl, rfl⟩ := List.getElem?_eq_some_iff.1 hj
  rw [List.drop_eq_getElem_cons hl, mayAll]
set_option maxRecDepth 100000 in
set_option maxHeartbeats 8000000 in
theorem may_any (P : Nat → Prop) (Z : NF → Prop) (gl : Nat) (hPgl : ∀ b, P b → b ≠ gl) : ∀ (n : Nd) (f : NF) (d : Nat) (depth left : Int) (w : World), NdR P Z w f n → (∀ b, P b → b < w.heap.size) → 0 ≤ left → left ≤ 2000 → d ≤ 16 → depth = 16 - (d : Int) → Blk w gl 3 #[.int .i64 left] →
    Calls Try.prog 39 #[f.val, .int .i64 depth, .pointer (some ⟨gl, 0, none⟩)] w fun e w' => e = .returned (.bool (n.mayW d left).1) ∧ Blk w' gl 3 #[.int .i64 (n.mayW d left).2] ∧ Turn [gl] w w' := by
  intro n
  refine Nd.rec' (P := fun n => ∀ (f : NF) (d : Nat) (depth left : Int) (w : World), NdR P Z w f n → (∀ b, P b → b < w.heap.size) → 0 ≤ left → left ≤ 2000 → d ≤ 16 → depth = 16 - (d : Int) → Blk w gl 3 #[.int .i64 left] → Calls Try.prog 39 #[f.val, .int .i64 depth, .pointer (some ⟨gl, 0, none⟩)] w fun e w' => e = .returned (.bool (n.mayW d left).1) ∧ Blk w' gl 3 #[.int .i64 (n.mayW d left).2] ∧ Turn [gl] w w') ?_ n
  clear n
  intro tag bs ks ih f d depth left w hN hPl h0 h1 hd16 hdep hB
  obtain ⟨ans, hans⟩ : ∃ ans, (Nd.mk tag bs ks).mayW d left = ans := ⟨_, rfl⟩
  rw [hans]
  unfold Nd.mayW at hans
  cases hN with
  | mk _ _ fs _ hb hbP hk hkm hkP hZ hl hkids =>
  obtain ⟨tag, A1, m1, c1, A2, m2, c2⟩ := f
  simp only at *
  have hm63 : (m2 : Int) ≤ 9223372036854775807 := by unfold maxLen at hkm; omega
  obtain ⟨X, hX⟩ : ∃ X, w.heap.size = X := ⟨_, rfl⟩
  obtain ⟨wA, hwA⟩ : ∃ wA, w.alloc (.cells #[.int .i64 tag, .slice A1 m1 c1, .slice A2 m2 c2] 25) = wA := ⟨_, rfl⟩
  have bA : Blk wA X 25 #[.int .i64 tag, .slice A1 m1 c1, .slice A2 m2 c2] := by rw [← hwA, ← hX]; exact Blk.new _ _ _
  have hbA : Below w.heap.size w wA := by rw [← hwA]; exact (Below.refl _ _).alloc (Nat.le_refl _) _
  have hglX : gl < X := by rw [← hX]; exact hB.lt
  obtain ⟨g0, g1, g2⟩ : wA.cell? ⟨X, 0, none⟩ = some (.int .i64 tag) ∧ wA.cell? ⟨X, 1, none⟩ = some (.slice A1 m1 c1) ∧ wA.cell? ⟨X, 2, none⟩ = some (.slice A2 m2 c2) := by rw [bA.cell, bA.cell, bA.cell]; exact ⟨rfl, rfl, rfl⟩
  have cl : wA.cell? ⟨gl, 0, none⟩ = some (.int .i64 left) := by rw [(hB.below hbA).cell]; rfl
  have fl := (hB.below hbA).frozen 0
  have hbl : bs.length = m1 := by have := hb.1; omega
  have hkl : ks.length = m2 := by have := hk.1; omega
  obtain ⟨w1, hw1⟩ : ∃ w1, wA.setCell ⟨gl, 0, none⟩ (.int .i64 (left - 1)) = w1 := ⟨_, rfl⟩
  have b1 : Blk w1 gl 3 #[.int .i64 (left - 1)] := by rw [← hw1]; have := (hB.below hbA).set_ 0 (.int .i64 (left - 1)); simpa using this
  have hT1 : Turn [gl] w w1 := by rw [← hw1]; exact (Turn.of_below _ hbA).setCell (.inl (by simp)) _
  have bX1 : Blk w1 X 25 #[.int .i64 tag, .slice A1 m1 c1, .slice A2 m2 c2] := by rw [← hw1]; exact bA.far (by simp; omega) _
  have hs1 : w1.heap.size = X + 1 := by rw [← hw1, ← hwA, ← hX]; simp
  obtain ⟨q0, q1, q2⟩ : w1.cell? ⟨X, 0, none⟩ = some (.int .i64 tag) ∧ w1.cell? ⟨X, 1, none⟩ = some (.slice A1 m1 c1) ∧ w1.cell? ⟨X, 2, none⟩ = some (.slice A2 m2 c2) := by rw [bX1.cell, bX1.cell, bX1.cell]; exact ⟨rfl, rfl, rfl⟩
  have cl1 : w1.cell? ⟨gl, 0, none⟩ = some (.int .i64 (left - 1)) := by rw [b1.cell]; rfl
  have hRd := hb.turn hT1 (fun a ha hm => by simp at hm; exact hPgl _ (hbP a ha) hm)
  have hRc := hk.turn hT1 (fun a ha hm => by simp at hm; exact hPgl _ (hkP a ha) hm)
  have hKs : ∀ (j : Nat) (g : NF) (k : Nd), fs[j]? = some g → ks[j]? = some k → NdR P Z w1 g k := fun j g k hg hk => (hkids j g k hg hk).turn hT1 (fun b hb => ⟨hPl b hb, fun hm => by simp at hm; exact hPgl b hb hm⟩)
  have H1 := Lib.hid (And.intro b1 (And.intro hT1 (And.intro hRd (And.intro hRc (And.intro hKs (And.intro bX1 (And.intro hs1 hX)))))))
  have HI := Lib.hid ih
  have HP := Lib.hid (And.intro hPl hl)
  have HP2 := Lib.hid hkP
  have HD := Lib.hid (And.intro hdep hd16)
  clear hdep hd16
  clear hb hbP hk hkP hZ hkids hPl hB b1 hT1 hRd hRc hKs ih bX1 hs1 hl bA hbA
  simp only [NF.val]
  go_enter Try.func39, Try.ntmps39
  by_cases t1 : left - 1 < 0
  · rw [if_pos t1] at hans
    subst hans
    have t1d : decide (left - 1 < 0) = true := decide_eq_true t1
    go_wp2_with fail
    try rw [hwA]
    try rw [hX]
    go_wp2_with fail
    try rw [hw1]
    go_wp2_with fail
    try rw [hw1]
    go_ret
    exact ⟨by first | rfl | simp, H1.out.1, H1.out.2.1⟩
  rw [if_neg t1] at hans
  have t1d : decide (left - 1 < 0) = false := decide_eq_false t1
  cases d with
  | zero =>
    simp only at hans
    subst hans
    have t2 : (16 : Int) ≤ depth := by have := HD.out.1; have := HD.out.2; omega
    have t2d : decide ((16 : Int) ≤ depth) = true := decide_eq_true t2
    go_wp2_with fail
    try rw [hwA]
    try rw [hX]
    go_wp2_with fail
    try rw [hw1]
    go_wp2_with fail
    try rw [hw1]
    go_ret
    exact ⟨by first | rfl | simp, H1.out.1, H1.out.2.1⟩
  | succ d =>
    simp only at hans
    have t2 : ¬ (16 : Int) ≤ depth := by have := HD.out.1; have := HD.out.2; omega
    have t2d : decide ((16 : Int) ≤ depth) = false := decide_eq_false t2
    have hd0 : 0 ≤ depth := by have := HD.out.1; have := HD.out.2; omega
    by_cases t3 : tag = 48
    · subst t3
      rw [if_pos rfl] at hans
      by_cases t4 : 0 < bs.length
      · rw [if_pos t4] at hans
        subst hans
        have t4i : (0 : Int) < m1 := by omega
        have t4d : decide ((0 : Int) < (m1 : Int)) = true := decide_eq_true t4i
        go_wp2_with fail
        try rw [hwA]
        try rw [hX]
        go_wp2_with fail
        try rw [hw1]
        go_wp2_with fail
        try rw [hw1]
        go_ret
        exact ⟨by first | rfl | simp, H1.out.1, H1.out.2.1⟩
      rw [if_neg t4] at hans
      have t4i : ¬ (0 : Int) < m1 := by omega
      have t4d : decide ((0 : Int) < (m1 : Int)) = false := decide_eq_false t4i
      go_wp2_with fail
      try rw [hwA]
      try rw [hX]
      go_wp2_with fail
      try rw [hw1]
      go_wp2_with fail
      go_loopw [43] (fun kk wr => ∃ (j : Nat) (lf : Int), j ≤ m2 ∧ kk = .int .i64 (j : Int) ∧ 0 ≤ lf ∧ lf ≤ left - 1 ∧ mayAll d lf (ks.drop j) = mayAll d (left - 1) ks ∧ Turn [gl] w1 wr ∧ Blk wr gl 3 #[.int .i64 lf]) (fun kk _ => m2 - (intOf kk).toNat)
      case atStart => exact ⟨0, left - 1, by omega, rfl, by omega, by omega, rfl, Turn.refl _ _, H1.out.1⟩
      case round =>
        obtain ⟨j, lf, hj, rfl, hlf0, hlf1, hst, hTr, hBr⟩ := hrel
        by_cases hlt : j < m2
        · have hlti : (j : Int) < m2 := by omega
          have hltd : decide ((j : Int) < (m2 : Int)) = true := decide_eq_true hlti
          have hj0 : ¬ ((j : Int) < 0) := by omega
          obtain ⟨k, hk⟩ : ∃ k, ks[j]? = some k := ⟨_, List.getElem?_eq_getElem (by omega)⟩
          obtain ⟨fk, hfk⟩ : ∃ fk, fs[j]? = some fk := ⟨_, List.getElem?_eq_getElem (by have := HP.out.2; omega)⟩
          have hRc := H1.out.2.2.2.1.turn hTr (fun a ha hm => by simp at hm; exact hPgl _ (HP2.out a ha) hm)
          obtain ⟨g, off, hAe, z0, z1, z2⟩ := node_at hRc hfk
          have hKk : NdR P Z wr fk k := (H1.out.2.2.2.2.1 j fk k hfk hk).turn hTr (fun b hb => ⟨by have := HP.out.1 b hb; have := H1.out.2.1.size; omega, fun hm => by simp at hm; exact hPgl b hb hm⟩)
          obtain ⟨t', B1, n1, k1, B2, n2, k2⟩ := fk
          simp only at z0 z1 z2
          obtain ⟨w2, hw2⟩ : ∃ w2, wr.alloc (.cells #[.int .i64 t', .slice B1 n1 k1, .slice B2 n2 k2] 25) = w2 := ⟨_, rfl⟩
          obtain ⟨Y, hY⟩ : ∃ Y, wr.heap.size = Y := ⟨_, rfl⟩
          have b2 : Blk w2 Y 25 #[.int .i64 t', .slice B1 n1 k1, .slice B2 n2 k2] := by rw [← hw2, ← hY]; exact Blk.new _ _ _
          have hb2 : Below wr.heap.size wr w2 := by rw [← hw2]; exact (Below.refl _ _).alloc (Nat.le_refl _) _
          obtain ⟨y0, y1, y2⟩ : w2.cell? ⟨Y, 0, none⟩ = some (.int .i64 t') ∧ w2.cell? ⟨Y, 1, none⟩ = some (.slice B1 n1 k1) ∧ w2.cell? ⟨Y, 2, none⟩ = some (.slice B2 n2 k2) := by rw [b2.cell, b2.cell, b2.cell]; exact ⟨rfl, rfl, rfl⟩
          have hPr : ∀ b, P b → b < wr.heap.size := fun b hb => by have := HP.out.1 b hb; have := H1.out.2.1.size; have := hTr.size; omega
          have hcall := HI.out k (List.mem_of_getElem? hk) ⟨t', B1, n1, k1, B2, n2, k2⟩ d (depth + 1) lf w2 (hKk.bel hb2 hPr) (fun b hb => by have := hPr b hb; have := hb2.size; omega) hlf0 (by omega) (by have := HD.out.2; omega) (by have := HD.out.1; omega) (hBr.below hb2)
          rw [mayAll_step hk] at hst
          have HS := Lib.hid (And.intro hst (And.intro hTr (And.intro hb2 hk)))
          subst hAe
          clear hst hTr hb2 hk hRc hKk hBr hPr b2 hfk
          simp only [NF.val] at hcall
          go_wp2_with fail
          try rw [hw2]
          try rw [hY]
          go_wp2_with fail
          refine hcall.mono ?_
          rintro e w3 ⟨rfl, hB3, hT3⟩
          have low := mayW_low k d lf hlf0
          have hT3' : Turn [gl] w1 w3 := HS.out.2.1.trans ((Turn.of_below [gl] HS.out.2.2.1).trans hT3 (fun x hx => .inl hx)) (fun x hx => .inl hx)
          obtain ⟨v, hv⟩ : ∃ v, (k.mayW d lf).1 = v := ⟨_, rfl⟩
          rw [hv]
          have hst := HS.out.1
          have H3 := Lib.hid (And.intro hB3 (And.intro hT3' low))
          clear hB3 hT3 hT3' low
          cases v with
          | true =>
            rw [if_pos hv] at hst
            have HST := Lib.hid hst
            clear hst hcall hw2
            go_wp2_with fail
            go_roundw
            case measure => simp [intOf]; omega
            exact ⟨j + 1, (k.mayW d lf).2, by omega, by simp, H3.out.2.2.2.2 hv, by have := H3.out.2.2.2.1; omega, HST.out, H3.out.2.1, H3.out.1⟩
          | false =>
            rw [if_neg (by rw [hv]; simp)] at hst
            have HST := Lib.hid (hst.trans hans)
            clear hst hans hcall hw2
            go_wp2_with fail
            go_ret
            rw [← HST.out]
            exact ⟨rfl, H3.out.1, H1.out.2.1.trans H3.out.2.1 (fun x hx => .inl hx)⟩
        · obtain rfl : j = m2 := by omega
          have hlti : ¬ (j : Int) < j := by omega
          rw [List.drop_of_length_le (by omega)] at hst
          have HS := Lib.hid (And.intro hst (And.intro hTr hBr))
          clear hst hTr hBr
          go_wp2_with fail
          go_ret
          rw [← hans, ← HS.out.1]
          exact ⟨rfl, HS.out.2.2, H1.out.2.1.trans HS.out.2.1 (fun x hx => .inl hx)⟩
    · rw [if_neg t3] at hans
      have t3d : (tag == 48) = false := by simp [t3]
      by_cases t5 : m2 = 0
      · subst t5
        have hp := plain_any tag A1 m1 c1 bs w1 H1.out.2.2.1
        rw [show ks.length = 0 by omega] at hans
        simp only [decide_true, Bool.true_and] at hans
        subst hans
        go_wp2_with fail
        try rw [hwA]
        try rw [hX]
        go_wp2_with fail
        try rw [hw1]
        go_wp2_with fail
        refine hp.mono ?_
        rintro e w2 ⟨rfl, rfl⟩
        go_wp2_with fail
        go_ret
        exact ⟨rfl, H1.out.1, H1.out.2.1⟩
      · have t5i : ¬ ((m2 : Int) = 0) := by omega
        have t5d : decide ((m2 : Int) = 0) = false := decide_eq_false t5i
        rw [decide_eq_false (show ¬ ks.length = 0 by omega), Bool.false_and] at hans
        subst hans
        go_wp2_with fail
        try rw [hwA]
        try rw [hX]
        go_wp2_with fail
        try rw [hw1]
        go_wp2_with fail
        try rw [hw1]
        go_ret
        exact ⟨by first | rfl | simp, H1.out.1, H1.out.2.1⟩
end Go.Proofs.Ytgkhhinjdojbhaa
