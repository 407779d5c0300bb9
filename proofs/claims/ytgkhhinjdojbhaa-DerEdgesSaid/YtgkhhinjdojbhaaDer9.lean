/-
  DER: a node is written.
-/
import Derived.Test.YtgkhhinjdojbhaaDer8
import Derived.Test.YtgkhhinjdojbhaaDer7
namespace Go.Proofs.Ytgkhhinjdojbhaa
open Go.RowKit

/-- A node with kids has no memory for bytes. -/
def NB (f : NF) : Prop := f.tag = 48 → f.A1 = none ∧ f.m1 = 0 ∧ f.c1 = 0
/-- The same, where it has no bytes. -/
def NB2 (f : NF) : Prop := f.tag = 48 → f.m1 = 0 → f.A1 = none ∧ f.c1 = 0
theorem NB.two {f : NF} (h : NB f) : NB2 f := fun h1 _ => ⟨(h h1).1, (h h1).2.2⟩
theorem encAll_take {ks : List Nd} {j : Nat} {k : Nd} (h : ks[j]? = some k) : encAll (ks.take (j + 1)) = encAll (ks.take j) ++ k.enc := by
  rw [List.take_add_one, h, encAll_append]
  simp [encAll]
theorem encAll_take_le (ks : List Nd) (j : Nat) : (encAll (ks.take j)).length ≤ (encAll ks).length := by
  have := encAll_append (ks.take j) (ks.drop j)
  rw [List.take_append_drop] at this
  rw [this, List.length_append]; omega
/-- What a node holds, as far as j kids. -/
def bodyW (tag : Int) (bs : List UInt8) (ks : List Nd) (j : Nat) : List UInt8 := if tag = 48 then encAll (ks.take j) else bs
theorem enc_body (tag : Int) (bs : List UInt8) (ks : List Nd) : (Nd.mk tag bs ks).enc = hdr tag (bodyW tag bs ks ks.length) := by
  rw [Nd.enc]; unfold bodyW; rw [List.take_length]
theorem enc_kid {bs : List UInt8} {ks : List Nd} {k : Nd} (h : k ∈ ks) : k.enc.length ≤ (Nd.mk 48 bs ks).enc.length := by
  rw [Nd.enc, if_pos rfl, hdr_len]
  have := encAll_mem h
  omega
theorem enc_part (bs : List UInt8) (ks : List Nd) (j : Nat) : (encAll (ks.take j)).length ≤ (Nd.mk 48 bs ks).enc.length := by
  rw [Nd.enc, if_pos rfl, hdr_len]
  have := encAll_take_le ks j
  omega
set_option maxRecDepth 100000 in
set_option maxHeartbeats 8000000 in
theorem write_any (P : Nat → Prop) : ∀ (n : Nd) (f : NF) (d : Nat) (w : World), NdR P NB2 w f n → (∀ b, P b → b < w.heap.size) → n.ok d = true →
    Calls Try.prog 37 #[f.val] w fun e w' => ∃ A1 n1 c1, e = .returned (.tuple #[.slice A1 n1 c1, .bool (decide (n.enc.length ≤ 65536))]) ∧ (n.enc.length ≤ 65536 → Own w' w.heap.size (.slice A1 n1 c1) n.enc) ∧ Below w.heap.size w w' := by
  intro n
  refine Nd.rec' (P := fun n => ∀ (f : NF) (d : Nat) (w : World), NdR P NB2 w f n → (∀ b, P b → b < w.heap.size) → n.ok d = true → Calls Try.prog 37 #[f.val] w fun e w' => ∃ A1 n1 c1, e = .returned (.tuple #[.slice A1 n1 c1, .bool (decide (n.enc.length ≤ 65536))]) ∧ (n.enc.length ≤ 65536 → Own w' w.heap.size (.slice A1 n1 c1) n.enc) ∧ Below w.heap.size w w') ?_ n
  clear n
  intro tag bs ks ih f d w hN hPl hok
  obtain ⟨d, rfl⟩ := Nd.ok_succ hok
  have hcs := Nd.ok_cases hok
  obtain ⟨en, hen⟩ : ∃ en, (Nd.mk tag bs ks).enc = en := ⟨_, rfl⟩
  rw [hen]
  have hen2 := hen
  rw [enc_body] at hen2
  cases hN with
  | mk _ _ fs _ hb hbP hk hkm hkP hZ hl hkids =>
  obtain ⟨tag, A1, m1, c1, A2, m2, c2⟩ := f
  simp only at *
  have hm63 : (m2 : Int) ≤ 9223372036854775807 := by unfold maxLen at hkm; omega
  obtain ⟨X, hX⟩ : ∃ X, w.heap.size = X := ⟨_, rfl⟩
  obtain ⟨wA, hwA⟩ : ∃ wA, w.alloc (.cells #[.int .i64 tag, .slice A1 m1 c1, .slice A2 m2 c2] 25) = wA := ⟨_, rfl⟩
  have bA : Blk wA X 25 #[.int .i64 tag, .slice A1 m1 c1, .slice A2 m2 c2] := by rw [← hwA, ← hX]; exact Blk.new _ _ _
  have hbA : Below w.heap.size w wA := by rw [← hwA]; exact (Below.refl _ _).alloc (Nat.le_refl _) _
  have hsA : wA.heap.size = X + 1 := by rw [← hwA, ← hX]; simp
  obtain ⟨g0, g1, g2⟩ : wA.cell? ⟨X, 0, none⟩ = some (.int .i64 tag) ∧ wA.cell? ⟨X, 1, none⟩ = some (.slice A1 m1 c1) ∧ wA.cell? ⟨X, 2, none⟩ = some (.slice A2 m2 c2) := by rw [bA.cell, bA.cell, bA.cell]; exact ⟨rfl, rfl, rfl⟩
  have hbl : bs.length = m1 := by have := hb.1; omega
  have hkl : ks.length = m2 := by have := hk.1; omega
  have hKs : ∀ (j : Nat) (g : NF) (k : Nd), fs[j]? = some g → ks[j]? = some k → NdR P NB2 wA g k := fun j g k hg hk => (hkids j g k hg hk).bel hbA hPl
  have hR0 : Rd wA A1 m1 c1 (bodyW tag bs ks 0) := by
    rcases hcs with ⟨rfl, rfl, _⟩ | ⟨ht, rfl, _⟩
    · unfold bodyW; rw [if_pos rfl]; exact hb.below hbA
    · unfold bodyW; rw [if_neg ht]; exact hb.below hbA
  have hO0 : 0 < m2 → Own wA (X + 1) (.slice A1 m1 c1) (bodyW tag bs ks 0) := by
    intro h0
    rcases hcs with ⟨rfl, rfl, _⟩ | ⟨ht, rfl, _⟩
    · obtain rfl : m1 = 0 := by have := hb.1; simpa using this
      obtain ⟨rfl, rfl⟩ := hZ rfl rfl
      exact Own.nil _ _
    · simp at hkl; omega
  have h48 : 0 < m2 → tag = 48 ∧ okAll d ks = true := by
    intro h0
    rcases hcs with ⟨rfl, rfl, h⟩ | ⟨ht, rfl, _⟩
    · exact ⟨rfl, h⟩
    · simp at hkl; omega
  have HA := Lib.hid (And.intro hR0 (And.intro hO0 (And.intro hKs (And.intro bA (And.intro hbA (And.intro hsA (And.intro h48 (hk.below hbA))))))))
  have HI := Lib.hid ih
  have HP := Lib.hid (And.intro hPl hl)
  have HE := Lib.hid (And.intro hen hen2)
  have hM := hb.2.1
  have hM2 := hb.2.2.1
  clear hcs hen hen2 hb hbP hk hkP hZ hkids hPl ih hl bA hbA hKs hR0 hO0 hsA h48 hok
  simp only [NF.val]
  go_enter Try.func37, Try.ntmps37
  go_wp2_with fail
  try rw [hwA]
  try rw [hX]
  go_wp2_with fail
  go_loopw [4, 15] (fun bb kk wr => ∃ (j : Nat) (A : Option Addr) (nb c : Nat), j ≤ m2 ∧ kk = .int .i64 (j : Int) ∧ bb = .slice A nb c ∧ nb ≤ maxLen ∧ Rd wr A nb c (bodyW tag bs ks j) ∧ (0 < m2 → Own wr (X + 1) (.slice A nb c) (bodyW tag bs ks j)) ∧ (0 < m2 → nb ≤ 65536) ∧ Below (X + 1) wA wr) (fun _ kk _ => m2 - (intOf kk).toNat)
  case atStart => exact ⟨0, A1, m1, c1, by omega, rfl, rfl, by omega, HA.out.1, HA.out.2.1, fun h => by have := (HA.out.2.1 h).len; have := (HA.out.2.2.2.2.2.2.1 h).1; subst this; simp [bodyW, encAll] at *; omega, Below.refl _ _⟩
  case round =>
    obtain ⟨j, A, nb, c, hj, rfl, rfl, hnb, hR, hO, hn6, hB⟩ := hrel
    have hBA : Below wA.heap.size wA wr := hB.mono (by have := HA.out.2.2.2.2.2.1; omega)
    obtain ⟨q0, q1, q2⟩ : wr.cell? ⟨X, 0, none⟩ = some (.int .i64 tag) ∧ wr.cell? ⟨X, 1, none⟩ = some (.slice A1 m1 c1) ∧ wr.cell? ⟨X, 2, none⟩ = some (.slice A2 m2 c2) := by rw [(HA.out.2.2.2.1.below hBA).cell, (HA.out.2.2.2.1.below hBA).cell, (HA.out.2.2.2.1.below hBA).cell]; exact ⟨rfl, rfl, rfl⟩
    by_cases hlt : j < m2
    · have hlti : (j : Int) < m2 := by omega
      have hltd : decide ((j : Int) < (m2 : Int)) = true := decide_eq_true hlti
      have hj0 : ¬ ((j : Int) < 0) := by omega
      obtain ⟨h48, hoka⟩ := HA.out.2.2.2.2.2.2.1 (by omega)
      subst h48
      obtain ⟨k, hk⟩ : ∃ k, ks[j]? = some k := ⟨_, List.getElem?_eq_getElem (by omega)⟩
      obtain ⟨fk, hfk⟩ : ∃ fk, fs[j]? = some fk := ⟨_, List.getElem?_eq_getElem (by have := HP.out.2; omega)⟩
      obtain ⟨g, off, hAe, z0, z1, z2⟩ := node_at (HA.out.2.2.2.2.2.2.2.below hBA) hfk
      have hPA : ∀ b, P b → b < wA.heap.size := fun b hb => by have := HP.out.1 b hb; have := HA.out.2.2.2.2.1.size; omega
      have hPr : ∀ b, P b → b < wr.heap.size := fun b hb => by have := hPA b hb; have := hBA.size; omega
      have hKk : NdR P NB2 wr fk k := (HA.out.2.2.1 j fk k hfk hk).bel hBA hPA
      obtain ⟨t', B1, n1, k1, B2, n2, k2⟩ := fk
      simp only at z0 z1 z2
      obtain ⟨w2, hw2⟩ : ∃ w2, wr.alloc (.cells #[.int .i64 t', .slice B1 n1 k1, .slice B2 n2 k2] 25) = w2 := ⟨_, rfl⟩
      obtain ⟨Y, hY⟩ : ∃ Y, wr.heap.size = Y := ⟨_, rfl⟩
      have b2 : Blk w2 Y 25 #[.int .i64 t', .slice B1 n1 k1, .slice B2 n2 k2] := by rw [← hw2, ← hY]; exact Blk.new _ _ _
      have hb2 : Below wr.heap.size wr w2 := by rw [← hw2]; exact (Below.refl _ _).alloc (Nat.le_refl _) _
      obtain ⟨y0, y1, y2⟩ : w2.cell? ⟨Y, 0, none⟩ = some (.int .i64 t') ∧ w2.cell? ⟨Y, 1, none⟩ = some (.slice B1 n1 k1) ∧ w2.cell? ⟨Y, 2, none⟩ = some (.slice B2 n2 k2) := by rw [b2.cell, b2.cell, b2.cell]; exact ⟨rfl, rfl, rfl⟩
      have hcall := HI.out k (List.mem_of_getElem? hk) ⟨t', B1, n1, k1, B2, n2, k2⟩ d w2 (hKk.bel hb2 hPr) (fun b hb => by have := hPr b hb; have := hb2.size; omega) (okAll_mem hoka (List.mem_of_getElem? hk))
      have hO := hO (by omega)
      have hnb6 := hn6 (by omega)
      have hX1 : X + 1 ≤ wr.heap.size := by have := hBA.size; have := HA.out.2.2.2.2.2.1; omega
      have HS := Lib.hid (And.intro hO (And.intro hR (And.intro hB (And.intro hb2 (And.intro hk (And.intro hX1 (fun h : en.length ≤ 65536 => (show k.enc.length ≤ 65536 by have h9 := enc_kid (bs := bs) (List.mem_of_getElem? hk); rw [HE.out.1] at h9; omega))))))))
      subst hAe
      clear hO hR hB hb2 hk hKk hPr hPA b2 hfk hn6 hoka
      simp only [NF.val] at hcall
      by_cases hk6 : k.enc.length ≤ 65536
      · rw [decide_eq_true hk6] at hcall
        go_wp2_with fail
        try rw [hw2]
        try rw [hY]
        go_wp2_with fail
        refine hcall.mono ?_
        rintro e w3 ⟨A3, n3, c3, rfl, ho3, hb3⟩
        have ho3 := ho3 hk6
        have hb3' : Below wr.heap.size wr w3 := HS.out.2.2.2.1.trans (hb3.mono HS.out.2.2.2.1.size)
        have H3 := Lib.hid (And.intro ho3.rd (And.intro (HS.out.1.below hb3') (HS.out.2.2.1.trans (hb3'.mono HS.out.2.2.2.2.2.1))))
        have hl3 := Lib.hid ho3.len
        clear ho3 hb3 hb3' hcall hw2
        by_cases hbig : 65536 < nb + n3
        · go_wp2_with (at_builtin; go_loud (refine wp_app2 (.tmp 26) (.tmp 27) (X + 1) (.slice A nb c) _ H3.out.2.1 (by have := H3.out.2.2.size; have := HA.out.2.2.2.2.2.1; omega) A3 n3 c3 _ H3.out.1 (by have := H3.out.1.1; have := HS.out.2.1.1; omega) rfl rfl rfl rfl ?_; intro A4 n4 c4 w4 hi4 hG; have hn4 : n4 = nb + n3 := (by have h1 := hG.len; have h2 := H3.out.1.1; have h3 := HS.out.2.1.1; rw [List.length_append] at h1; omega); have t4 : (65536 : Int) < n4 := (by omega); have t4d : decide ((65536 : Int) < (n4 : Int)) = true := decide_eq_true t4; have H4 := Lib.hid (And.intro hG hn4); clear hG hn4))
          go_ret2
          have hen6 : ¬ en.length ≤ 65536 := fun h => by
            have h9 := enc_part bs ks (j + 1)
            rw [HE.out.1, encAll_take HS.out.2.2.2.2.1, List.length_append] at h9
            have h8 := HS.out.2.1.1
            unfold bodyW at h8
            rw [if_pos rfl] at h8
            have := H3.out.1.1
            omega
          exact ⟨none, 0, 0, by rw [decide_eq_false hen6]; rfl, fun h => absurd h hen6, HA.out.2.2.2.2.1.trans ((H3.out.2.2.trans H4.out.1.below).mono (by omega))⟩
        · go_wp2_with (at_builtin; go_loud (refine wp_app2 (.tmp 26) (.tmp 27) (X + 1) (.slice A nb c) _ H3.out.2.1 (by have := H3.out.2.2.size; have := HA.out.2.2.2.2.2.1; omega) A3 n3 c3 _ H3.out.1 (by have := H3.out.1.1; have := HS.out.2.1.1; omega) rfl rfl rfl rfl ?_; intro A4 n4 c4 w4 hi4 hG; have hn4 : n4 = nb + n3 := (by have h1 := hG.len; have h2 := H3.out.1.1; have h3 := HS.out.2.1.1; rw [List.length_append] at h1; omega); have t4 : ¬ (65536 : Int) < n4 := (by omega); have t4d : decide ((65536 : Int) < (n4 : Int)) = false := decide_eq_false t4; have H4 := Lib.hid (And.intro hG hn4); clear hG hn4))
          go_roundw
          case measure => simp [intOf]; omega
          have hbo : bodyW 48 bs ks (j + 1) = bodyW 48 bs ks j ++ k.enc := by unfold bodyW; rw [if_pos rfl, if_pos rfl, encAll_take HS.out.2.2.2.2.1]
          exact ⟨j + 1, A4, n4, c4, by omega, by simp, rfl, by have h1 := H4.out.1.own.rd.2.1; have h2 := H4.out.1.own.rd.2.2.1; omega, by rw [hbo]; exact H4.out.1.own.rd, fun _ => by rw [hbo]; exact H4.out.1.own, fun _ => by have := H4.out.2; omega, H3.out.2.2.trans H4.out.1.below⟩
      · rw [decide_eq_false hk6] at hcall
        go_wp2_with fail
        try rw [hw2]
        try rw [hY]
        go_wp2_with fail
        refine hcall.mono ?_
        rintro e w3 ⟨A3, n3, c3, rfl, ho3, hb3⟩
        have hb3' : Below wr.heap.size wr w3 := HS.out.2.2.2.1.trans (hb3.mono HS.out.2.2.2.1.size)
        have H3 := Lib.hid (HS.out.2.2.1.trans (hb3'.mono HS.out.2.2.2.2.2.1))
        clear ho3 hb3 hb3' hcall hw2
        go_wp2_with fail
        go_ret2
        have hen6 : ¬ en.length ≤ 65536 := fun h => hk6 (HS.out.2.2.2.2.2.2 h)
        exact ⟨none, 0, 0, by rw [decide_eq_false hen6]; rfl, fun h => absurd h hen6, HA.out.2.2.2.2.1.trans (H3.out.mono (by omega))⟩
    · obtain rfl : j = m2 := by omega
      have hlti : ¬ (j : Int) < j := by omega
      have hbd := HE.out.2
      rw [hkl] at hbd
      obtain ⟨body, hbody⟩ : ∃ body, bodyW tag bs ks j = body := ⟨_, rfl⟩
      rw [hbody] at hR hbd
      have hbl2 := hR.1
      by_cases hbig : 65536 < nb
      · have t5 : (65536 : Int) < nb := by omega
        have t5d : decide ((65536 : Int) < (nb : Int)) = true := decide_eq_true t5
        have hen6 := Lib.hid (show ¬ en.length ≤ 65536 by rw [← hbd, hdr_len]; omega)
        have HS := Lib.hid (And.intro hB hbd)
        clear hR hO hB hbd hbody hbl2 hn6
        go_wp2_with fail
        go_ret2
        exact ⟨none, 0, 0, by rw [decide_eq_false hen6.out]; rfl, fun h => absurd h hen6.out, by have h9 := HA.out.2.2.2.2.1.trans (HS.out.1.mono (by omega)); first | exact h9 | (rw [← hX]; exact h9)⟩
      · have t5 : ¬ (65536 : Int) < nb := by omega
        have t5d : decide ((65536 : Int) < (nb : Int)) = false := decide_eq_false t5
        have hc := headed_any tag A nb c body wr hR (by omega)
        rw [hbd] at hc
        have HS := Lib.hid (And.intro hB (And.intro hbd hBA))
        clear hR hO hB hbd hbody hbl2 hn6 hBA
        go_wp2_with fail
        refine hc.mono ?_
        rintro e w3 ⟨A3, n3, c3, rfl, ho3, hb3⟩
        have H3 := Lib.hid (And.intro ho3 (And.intro (HA.out.2.2.2.2.1.trans (HS.out.2.2.mono (by have := HA.out.2.2.2.2.1.size; omega))) hb3))
        have hl3 := Lib.hid ho3.len
        clear ho3 hb3 hc
        go_wp2_with fail
        go_ret2
        exact ⟨A3, n3, c3, by rw [show decide (en.length ≤ 65536) = decide ((n3 : Int) ≤ 65536) from decide_eq_decide.2 (by have := hl3.out; omega)]; rfl, fun _ => H3.out.1.mono (by have := H3.out.2.1.size; omega), H3.out.2.1.trans (H3.out.2.2.mono (by have := H3.out.2.1.size; omega))⟩
end Go.Proofs.Ytgkhhinjdojbhaa
