/-
  DER: the reference's put and Write.
-/
import Derived.Test.YtgkhhinjdojbhaaDer10
import Derived.Deep.DeepCutAuto
namespace Go.Proofs.Ytgkhhinjdojbhaa
open Go.RowKit

theorem beMin_step {n : Nat} {l : List UInt8} (h : n ≠ 0) : beMin (n / 256) ++ UInt8.ofNat (n % 256) :: l = beMin n ++ l := by
  rw [beMin_pos h, List.append_assoc]; rfl

set_option maxRecDepth 100000 in
set_option maxHeartbeats 8000000 in
theorem put_any (P : Nat → Prop) (Z : NF → Prop) : ∀ (n : Nd) (f : NF) (d : Nat) (w : World), NdR P Z w f n → (∀ b, P b → b < w.heap.size) → n.ok d = true → n.enc.length ≤ 1000000 →
    Calls Try.prog 38 #[f.val] w fun e w' => ∃ A1 n1 c1, e = .returned (.slice A1 n1 c1) ∧ Own w' w.heap.size (.slice A1 n1 c1) n.enc ∧ Below w.heap.size w w' := by
  intro n
  refine Nd.rec' (P := fun n => ∀ (f : NF) (d : Nat) (w : World), NdR P Z w f n → (∀ b, P b → b < w.heap.size) → n.ok d = true → n.enc.length ≤ 1000000 →
      Calls Try.prog 38 #[f.val] w fun e w' => ∃ A1 n1 c1, e = .returned (.slice A1 n1 c1) ∧ Own w' w.heap.size (.slice A1 n1 c1) n.enc ∧ Below w.heap.size w w') ?_ n
  clear n
  intro tag bs ks ih f d w hN hPl hok hsz
  obtain ⟨d, rfl⟩ := Nd.ok_succ hok
  have hcs := Nd.ok_cases hok
  obtain ⟨en, hen⟩ : ∃ en, (Nd.mk tag bs ks).enc = en := ⟨_, rfl⟩
  rw [hen] at hsz ⊢
  have hen2 := hen
  rw [enc_body] at hen2
  cases hN with
  | mk _ _ fs _ hb hbP hk hkm hkP hZ hl hkids =>
  obtain ⟨tag, A1, m1, c1, A2, m2, c2⟩ := f
  simp only at *
  have hm63 : (m2 : Int) ≤ 9223372036854775807 := by unfold maxLen at hkm; omega
  obtain ⟨X, hX⟩ : ∃ X, w.heap.size = X := ⟨_, rfl⟩
  obtain ⟨wA, hwA⟩ : ∃ wA, w.alloc (.cells #[.int .i64 tag, .slice A1 m1 c1, .slice A2 m2 c2] 25) = wA := ⟨_, rfl⟩
  have bA : Blk wA X 25 #[.int .i64 tag, .slice A1 m1 c1, .slice A2 m2 c2] := by rw [← hwA, ← hX]; exact Blk.new _ _ _
  have hbA : Below w.heap.size w wA := by rw [← hwA]; exact (Below.refl _ _).alloc (Nat.le_refl _) _
  have hsA : wA.heap.size = X + 1 := by rw [← hwA, ← hX]; simp
  obtain ⟨g0, g1, g2⟩ : wA.cell? ⟨X, 0, none⟩ = some (.int .i64 tag) ∧ wA.cell? ⟨X, 1, none⟩ = some (.slice A1 m1 c1) ∧ wA.cell? ⟨X, 2, none⟩ = some (.slice A2 m2 c2) := by rw [bA.cell, bA.cell, bA.cell]; exact ⟨rfl, rfl, rfl⟩
  have hbl : bs.length = m1 := by have := hb.1; omega
  have hkl : ks.length = m2 := by have := hk.1; omega
  have hKs : ∀ (j : Nat) (g : NF) (k : Nd), fs[j]? = some g → ks[j]? = some k → NdR P Z wA g k := fun j g k hg hk => (hkids j g k hg hk).bel hbA hPl
  have HA := Lib.hid (And.intro (hb.below hbA) (And.intro hKs (And.intro bA (And.intro hbA (And.intro hsA (hk.below hbA))))))
  have HI := Lib.hid ih
  have HP := Lib.hid (And.intro hPl hl)
  have HE := Lib.hid (And.intro hen (And.intro hen2 hsz))
  have hM := hb.2.1
  have hM2 := hb.2.2.1
  clear hen hen2 hsz hb hbP hk hkm hkP hZ hkids hPl ih hl bA hbA hKs hsA hok
  simp only [NF.val]
  by_cases h48 : tag = 48
  · subst h48
    have hoka : okAll d ks = true := by
      rcases hcs with ⟨_, _, h⟩ | ⟨ht, _, _⟩
      · exact h
      · exact absurd rfl ht
    clear hcs
    go_enter Try.func38, Try.ntmps38
    go_wp2_with fail
    try rw [hwA]
    try rw [hX]
    go_wp2_with fail
    go_loopw [3, 4] (fun bb kk wr => ∃ (j : Nat) (A : Option Addr) (nb c : Nat), j ≤ m2 ∧ kk = .int .i64 (j : Int) ∧ bb = .slice A nb c ∧ Own wr (X + 1) (.slice A nb c) (encAll (ks.take j)) ∧ Below (X + 1) wA wr) (fun _ kk _ => m2 - (intOf kk).toNat)
    case atStart => exact ⟨0, none, 0, 0, by omega, rfl, rfl, by simp [encAll]; exact Own.nil _ _, Below.refl _ _⟩
    case round =>
      obtain ⟨j, A, nb, c, hj, rfl, rfl, hO, hB⟩ := hrel
      have hBA : Below wA.heap.size wA wr := hB.mono (by have := HA.out.2.2.2.2.1; omega)
      obtain ⟨q0, q1, q2⟩ : wr.cell? ⟨X, 0, none⟩ = some (.int .i64 48) ∧ wr.cell? ⟨X, 1, none⟩ = some (.slice A1 m1 c1) ∧ wr.cell? ⟨X, 2, none⟩ = some (.slice A2 m2 c2) := by rw [(HA.out.2.2.1.below hBA).cell, (HA.out.2.2.1.below hBA).cell, (HA.out.2.2.1.below hBA).cell]; exact ⟨rfl, rfl, rfl⟩
      have hX1 : X + 1 ≤ wr.heap.size := by have := hBA.size; have := HA.out.2.2.2.2.1; omega
      by_cases hlt : j < m2
      · have hlti : (j : Int) < m2 := by omega
        have hltd : decide ((j : Int) < (m2 : Int)) = true := decide_eq_true hlti
        have hj0 : ¬ ((j : Int) < 0) := by omega
        obtain ⟨k, hk⟩ : ∃ k, ks[j]? = some k := ⟨_, List.getElem?_eq_getElem (by omega)⟩
        obtain ⟨fk, hfk⟩ : ∃ fk, fs[j]? = some fk := ⟨_, List.getElem?_eq_getElem (by have := HP.out.2; omega)⟩
        obtain ⟨g, off, hAe, z0, z1, z2⟩ := node_at (HA.out.2.2.2.2.2.below hBA) hfk
        have hPA : ∀ b, P b → b < wA.heap.size := fun b hb => by have := HP.out.1 b hb; have := HA.out.2.2.2.1.size; omega
        have hPr : ∀ b, P b → b < wr.heap.size := fun b hb => by have := hPA b hb; have := hBA.size; omega
        have hKk : NdR P Z wr fk k := (HA.out.2.1 j fk k hfk hk).bel hBA hPA
        obtain ⟨t', B1, n1, k1, B2, n2, k2⟩ := fk
        simp only at z0 z1 z2
        have hke := enc_kid (bs := bs) (List.mem_of_getElem? hk)
        rw [HE.out.1] at hke
        have hcall := HI.out k (List.mem_of_getElem? hk) ⟨t', B1, n1, k1, B2, n2, k2⟩ d wr hKk hPr (okAll_mem hoka (List.mem_of_getElem? hk)) (by have := HE.out.2.2; omega)
        have hpart := enc_part bs ks j
        rw [HE.out.1] at hpart
        have HS := Lib.hid (And.intro hO (And.intro hB (And.intro hk (And.intro hX1 (And.intro hpart hke)))))
        subst hAe
        clear hO hB hk hKk hPr hPA hfk hpart hke
        simp only [NF.val] at hcall
        go_wp2_with fail
        refine hcall.mono ?_
        rintro e w3 ⟨A3, n3, c3, rfl, ho3, hb3⟩
        have H3 := Lib.hid (And.intro ho3.rd (And.intro (HS.out.1.below hb3) (HS.out.2.1.trans (hb3.mono HS.out.2.2.2.1))))
        clear ho3 hb3 hcall
        go_wp2_with (at_builtin; go_loud (refine wp_app2 (.tmp 27) (.tmp 28) (X + 1) (.slice A nb c) _ H3.out.2.1 (by have := H3.out.2.2.size; have := HA.out.2.2.2.2.1; omega) A3 n3 c3 _ H3.out.1 (by have := HS.out.2.2.2.2.1; have := HS.out.2.2.2.2.2; have := HE.out.2.2; omega) rfl rfl rfl rfl ?_; intro A4 n4 c4 w4 hi4 hG; have H4 := Lib.hid hG; clear hG))
        go_roundw
        case measure => simp [intOf]; omega
        exact ⟨j + 1, A4, n4, c4, by omega, by simp, rfl, by rw [encAll_take HS.out.2.2.1]; exact H4.out.own, H3.out.2.2.trans H4.out.below⟩
      · obtain rfl : j = m2 := by omega
        have hlti : ¬ (j : Int) < j := by omega
        have hltd : decide ((j : Int) < (j : Int)) = false := decide_eq_false hlti
        have hbd := HE.out.2.1
        rw [hkl] at hbd
        unfold bodyW at hbd
        rw [if_pos rfl] at hbd
        obtain ⟨body, hbody⟩ : ∃ body, encAll (ks.take j) = body := ⟨_, rfl⟩
        rw [hbody] at hO hbd
        have hR := hO.rd
        have hBw : Below w.heap.size w wr := HA.out.2.2.2.1.trans (hB.mono (by omega))
        clear hO hB hbody hoka
        obtain ⟨wq, hwq⟩ : ∃ wq, wq = wr := ⟨_, rfl⟩
        subst hwq
        obtain ⟨Y, hY⟩ : ∃ Y, wq.heap.size = Y := ⟨_, rfl⟩
        have hnb := hR.1
        have hlen := hdr_len 48 body
        rw [hbd] at hlen
        have hsz := HE.out.2.2
        obtain ⟨wB, hwB⟩ : ∃ wB, wq.alloc (.cells #[.int .u8 48] 5) = wB := ⟨_, rfl⟩
        have bB : Blk wB Y 5 #[B (byteI 48)] := by rw [B_byteI, ← hwB, ← hY]; exact Blk.new _ _ _
        have hbB : Below Y wq wB := by rw [← hwB]; exact (Below.refl _ _).alloc (by omega) _
        have hsB : wB.heap.size = Y + 1 := by rw [← hwB, ← hY]; simp
        have hOB := Own.one (base := Y) bB (Nat.le_refl _)
        have h2 : ∀ w', Below Y wq w' → Rd w' A nb c body := fun w' hb => hR.below (by rw [hY]; exact hb)
        have qB : wB.cell? ⟨X, 0, none⟩ = some (.int .i64 48) := (World.cell?_of_block (a := ⟨X, 0, none⟩) (hbB.block X (by omega))).trans q0
        have hBw2 : ∀ w', Below Y wq w' → Below w.heap.size w w' := fun w' hb => hBw.trans (hb.mono (by rw [← hY]; exact hBw.size))
        have HB := Lib.hid (And.intro hOB (And.intro hbB (And.intro hsB (And.intro h2 hBw2))))
        clear hR hOB hbB hsB bB h2 hBw hBw2
        have hsml : nb ≤ 1000000 := by omega
        have hYX : X < Y := by omega
        clear hlen hsz
        by_cases h128 : nb < 128
        · have t1 : (nb : Int) < 128 := by omega
          have t1d : decide ((nb : Int) < 128) = true := decide_eq_true t1
          have hBm := B_small (n := nb) (by omega)
          have hmm : (nb : Int) % 256 = nb := by omega
          have hm8 : (nb : Int) < 256 := by omega
          have hcs : (#[.int .u8 (nb : Int)] : Array Value) = ([UInt8.ofNat nb].map B).toArray := by rw [List.map_cons, hBm]; rfl
          have hlenh : hdr 48 body = [byteI 48] ++ [UInt8.ofNat nb] ++ body := by unfold hdr lenB; rw [← hnb, if_pos h128]; rfl
          rw [hbd] at hlenh
          have hrl : ∀ w' : World, w'.heap.size = Y + 1 → Rd (w'.alloc (.cells #[.int .u8 (nb : Int)] 5)) (some ⟨Y + 1, 0, none⟩) 1 1 [UInt8.ofNat nb] := fun w' hs => by have := rd_lit (w := w') (l2 := [UInt8.ofNat nb]) (n := 1) hcs rfl (by omega); rwa [hs] at this
          have HL := Lib.hid (And.intro hrl (And.intro hlenh hnb))
          clear hcs hrl hlenh hBm hbd hnb
          subst hwB
          go_wp2_with (at_builtin; first | (refine wp_app2 (.tmp 37) (.tmp 41) Y (.slice (some ⟨Y, 0, none⟩) 1 1) [byteI 48] (HB.out.1.alloc_ _) (by have := HB.out.2.2.1; simp at this ⊢; omega) (some ⟨Y + 1, 0, none⟩) 1 1 [UInt8.ofNat nb] (HL.out.1 _ HB.out.2.2.1) (by simp) rfl rfl rfl rfl ?_; intro A4 n4 c4 w4 hi4 hG; have H4 := Lib.hid (And.intro hG (((HB.out.2.1.alloc (by have := HB.out.2.1.size; omega) _).trans hG.below))); clear hG) | (refine wp_app2 (.tmp 65) (.tmp 66) Y (.slice A4 n4 c4) _ H4.out.1.own (by have := H4.out.2.size; omega) A nb c body (HB.out.2.2.2.1 _ H4.out.2) (by have := HL.out.2.2; simp; omega) rfl rfl rfl rfl ?_; intro A6 n6 c6 w6 hi6 hG; have H6 := Lib.hid (And.intro hG (H4.out.2.trans hG.below)); clear hG))
          go_ret
          exact ⟨A6, n6, c6, rfl, by rw [HL.out.2.1]; exact H6.out.1.own.mono (by omega), by have h9 := HB.out.2.2.2.2 _ H6.out.2; first | exact h9 | (rw [← hX]; exact h9)⟩
        · have t1 : ¬ (nb : Int) < 128 := by omega
          have t1d : decide ((nb : Int) < 128) = false := decide_eq_false t1
          have hlenh : hdr 48 body = [byteI 48] ++ [UInt8.ofNat (128 + (beMin nb).length)] ++ beMin nb ++ body := by unfold hdr; rw [← hnb, lenB_big h128]; simp
          rw [hbd] at hlenh
          obtain ⟨ML, hML⟩ : ∃ ML, (beMin nb).length = ML := ⟨_, rfl⟩
          have hbml := beMin_len_le (n := nb) (k := 3) (by omega)
          rw [hML] at hlenh hbml
          have HL := Lib.hid (And.intro hlenh (And.intro hML hnb))
          clear hlenh hML hbd hnb
          have hsB := HB.out.2.2.1
          go_wp2_with fail
          try rw [hwB]
          try rw [hY]
          go_wp2_with fail
          go_loopw [7, 8] (fun ll kk ws => ∃ (kn : Nat) (Al : Option Addr) (nl cl : Nat) (l : List UInt8), kn ≤ nb ∧ kk = .int .i64 (kn : Int) ∧ ll = .slice Al nl cl ∧ Own ws (Y + 1) (.slice Al nl cl) l ∧ beMin kn ++ l = beMin nb ∧ Below (Y + 1) wB ws) (fun _ kk _ => (intOf kk).toNat)
          case atStart => exact ⟨nb, none, 0, 0, [], by omega, rfl, rfl, Own.nil _ _, by simp, Below.refl _ _⟩
          case round =>
            obtain ⟨kn, Al, nl, cl, l, hkn, rfl, rfl, hOl, hbm, hBs⟩ := hrel
            have hls := hOl.len
            have hll := congrArg List.length hbm
            rw [List.length_append, HL.out.2.1] at hll
            have hsz2 : Y + 1 ≤ wr.heap.size := by have := hBs.size; omega
            by_cases hk0 : kn = 0
            · subst hk0
              rw [beMin_zero, List.nil_append] at hbm
              have hls2 : nl = ML := by rw [hls, hbm, HL.out.2.1]
              subst hls2
              subst hbm
              have hBLn := B_small (n := 128 + nl) (by omega)
              have hcs : (#[.int .u8 (128 + (nl : Int))] : Array Value) = ([UInt8.ofNat (128 + nl)].map B).toArray := by rw [List.map_cons, hBLn]; simp
              have hrl : ∀ w' : World, Rd (w'.alloc (.cells #[.int .u8 (128 + (nl : Int))] 5)) (some ⟨w'.heap.size, 0, none⟩) 1 1 [UInt8.ofNat (128 + nl)] := fun w' => rd_lit (w := w') (l2 := [UInt8.ofNat (128 + nl)]) (n := 1) hcs rfl (by omega)
              have HO2 := Lib.hid (And.intro (HB.out.1.below (hBs.mono (by omega))) (And.intro hOl (And.intro (HB.out.2.1.trans (hBs.mono (by omega))) hrl)))
              clear hls hll hBLn hcs hrl hBs hOl
              go_wp2_with (at_builtin; first | (refine wp_app2 (.tmp 55) (.tmp 60) Y (.slice (some ⟨Y, 0, none⟩) 1 1) [byteI 48] (HO2.out.1.alloc_ _) (by simp; omega) (some ⟨wr.heap.size, 0, none⟩) 1 1 [UInt8.ofNat (128 + nl)] (HO2.out.2.2.2 _) (by simp) rfl rfl rfl rfl ?_; intro A4 n4 c4 w4 hi4 hG; have H4 := Lib.hid (And.intro hG (And.intro ((HO2.out.2.2.1.alloc (by omega) _).trans hG.below) (((HO2.out.2.1.alloc_ _).keep (fun g hg => hG.grown.block g (by have := (HO2.out.2.1.lt hg).2; simp; omega) (fun e => by have h1 := (HO2.out.2.1.lt hg).1; injection e with e; simp only at e; omega))).rd))); clear hG) | (refine wp_app2 (.tmp 62) (.tmp 63) Y (.slice A4 n4 c4) _ H4.out.1.own (by have := H4.out.2.1.size; omega) Al nl cl _ H4.out.2.2 (by simp; have := HL.out.2.1; omega) rfl rfl rfl rfl ?_; intro A5 n5 c5 w5 hi5 hG; have H5 := Lib.hid (And.intro hG (H4.out.2.1.trans hG.below)); clear hG) | (refine wp_app2 (.tmp 65) (.tmp 66) Y (.slice A5 n5 c5) _ H5.out.1.own (by have := H5.out.2.size; omega) A nb c body (HB.out.2.2.2.1 _ H5.out.2) (by have := HL.out.2.1; have := HL.out.2.2; simp; omega) rfl rfl rfl rfl ?_; intro A6 n6 c6 w6 hi6 hG; have H6 := Lib.hid (And.intro hG (H5.out.2.trans hG.below)); clear hG))
              go_ret
              exact ⟨A6, n6, c6, rfl, by rw [HL.out.1]; exact H6.out.1.own.mono (by omega), by have h9 := HB.out.2.2.2.2 _ H6.out.2; first | exact h9 | (rw [← hX]; exact h9)⟩
            · have t2 : (0 : Int) < kn := by omega
              have t2d : decide ((0 : Int) < (kn : Int)) = true := decide_eq_true t2
              rw [← beMin_step hk0] at hbm
              have hq : ((kn : Int)).tdiv 256 = ((kn / 256 : Nat) : Int) := by rw [Int.tdiv_eq_ediv_of_nonneg (by omega)]; omega
              have hr : ((kn : Int)).tmod 256 = ((kn % 256 : Nat) : Int) := by rw [Int.tmod_eq_emod_of_nonneg (by omega)]; omega
              have hqk : kn / 256 < kn := by omega
              have hrk : kn % 256 < 256 := by omega
              obtain ⟨q, hq1⟩ : ∃ q, kn / 256 = q := ⟨_, rfl⟩
              obtain ⟨r, hr1⟩ : ∃ r, kn % 256 = r := ⟨_, rfl⟩
              rw [hq1] at hq hqk hbm
              rw [hr1] at hr hrk hbm
              have hrm : (r : Int) % 256 = r := by omega
              have hr8 : (r : Int) < 256 := by omega
              have hBr := B_small hrk
              have hcs : (#[.int .u8 (r : Int)] : Array Value) = ([UInt8.ofNat r].map B).toArray := by rw [List.map_cons, hBr]; rfl
              obtain ⟨wC, hwC⟩ : ∃ wC, wr.alloc (.cells #[.int .u8 (r : Int)] 5) = wC := ⟨_, rfl⟩
              have bC : Blk wC wr.heap.size 5 #[B (UInt8.ofNat r)] := by rw [hBr, ← hwC]; exact Blk.new _ _ _
              have hbC : Below wr.heap.size wr wC := by rw [← hwC]; exact (Below.refl _ _).alloc (Nat.le_refl _) _
              have hOC := Own.one (base := Y + 1) bC hsz2
              have HS := Lib.hid (And.intro hbm (And.intro (hOl.below hbC).rd (And.intro (hBs.trans (hbC.mono hsz2)) hOC)))
              clear hq1 hr1 hcs hBr hbm hOl hBs bC hOC hbC hls
              have hll2 : l.length ≤ 3 := by omega
              clear hll
              subst hwC
              go_wp2_with (at_builtin; go_loud (refine wp_app2 (.tmp 52) (.tmp 53) (Y + 1) (.slice (some ⟨wr.heap.size, 0, none⟩) 1 1) [UInt8.ofNat r] HS.out.2.2.2 (by simp; omega) Al nl cl l HS.out.2.1 (by simp; omega) rfl rfl rfl rfl ?_; intro A4 n4 c4 w4 hi4 hG; have H4 := Lib.hid hG; clear hG))
              go_roundw
              case measure => simp [intOf]; omega
              exact ⟨q, A4, n4, c4, UInt8.ofNat r :: l, by omega, rfl, rfl, H4.out.own, HS.out.1, HS.out.2.2.1.trans H4.out.below⟩
  · have hbd := HE.out.2.1
    rw [hkl] at hbd
    unfold bodyW at hbd
    rw [if_neg h48] at hbd
    have h48d : decide (tag = 48) = false := decide_eq_false h48
    have hR := HA.out.1
    have hBw := HA.out.2.2.2.1
    have hX1 : X + 1 ≤ wA.heap.size := by have := HA.out.2.2.2.2.1; omega
    clear hcs
    go_enter Try.func38, Try.ntmps38
    go_upto_region 9 with fail
    try rw [hwA]
    try rw [hX]
    obtain ⟨Y, hY⟩ : ∃ Y, wA.heap.size = Y := ⟨_, rfl⟩
    have hnb := hR.1
    have hlen := hdr_len tag bs
    rw [hbd] at hlen
    have hsz := HE.out.2.2
    obtain ⟨wB, hwB⟩ : ∃ wB, wA.alloc (.cells #[.int .u8 (tag % 256)] 5) = wB := ⟨_, rfl⟩
    have bB : Blk wB Y 5 #[B (byteI tag)] := by rw [B_byteI, ← hwB, ← hY]; exact Blk.new _ _ _
    have hbB : Below Y wA wB := by rw [← hwB]; exact (Below.refl _ _).alloc (by omega) _
    have hsB : wB.heap.size = Y + 1 := by rw [← hwB, ← hY]; simp
    have hOB := Own.one (base := Y) bB (Nat.le_refl _)
    have h2 : ∀ w', Below Y wA w' → Rd w' A1 m1 c1 bs := fun w' hb => hR.below (by rw [hY]; exact hb)
    have qB : wB.cell? ⟨X, 0, none⟩ = some (.int .i64 tag) := (World.cell?_of_block (a := ⟨X, 0, none⟩) (hbB.block X (by omega))).trans g0
    have hBw2 : ∀ w', Below Y wA w' → Below w.heap.size w w' := fun w' hb => hBw.trans (hb.mono (by rw [← hY]; exact hBw.size))
    have HB := Lib.hid (And.intro hOB (And.intro hbB (And.intro hsB (And.intro h2 hBw2))))
    clear hR hOB hbB hsB bB h2 hBw hBw2
    have hsml : m1 ≤ 1000000 := by omega
    have hYX : X < Y := by omega
    clear hlen hsz
    by_cases h128 : m1 < 128
    · have t1 : (m1 : Int) < 128 := by omega
      have t1d : decide ((m1 : Int) < 128) = true := decide_eq_true t1
      have hBm := B_small (n := m1) (by omega)
      have hmm : (m1 : Int) % 256 = m1 := by omega
      have hm8 : (m1 : Int) < 256 := by omega
      have hcs : (#[.int .u8 (m1 : Int)] : Array Value) = ([UInt8.ofNat m1].map B).toArray := by rw [List.map_cons, hBm]; rfl
      have hlenh : hdr tag bs = [byteI tag] ++ [UInt8.ofNat m1] ++ bs := by unfold hdr lenB; rw [← hnb, if_pos h128]; rfl
      rw [hbd] at hlenh
      have hrl : ∀ w' : World, w'.heap.size = Y + 1 → Rd (w'.alloc (.cells #[.int .u8 (m1 : Int)] 5)) (some ⟨Y + 1, 0, none⟩) 1 1 [UInt8.ofNat m1] := fun w' hs => by have := rd_lit (w := w') (l2 := [UInt8.ofNat m1]) (n := 1) hcs rfl (by omega); rwa [hs] at this
      have HL := Lib.hid (And.intro hrl (And.intro hlenh hnb))
      clear hcs hrl hlenh hBm hbd hnb
      subst hwB
      go_wp2_with (at_builtin; first | (refine wp_app2 (.tmp 37) (.tmp 41) Y (.slice (some ⟨Y, 0, none⟩) 1 1) [byteI tag] (HB.out.1.alloc_ _) (by have := HB.out.2.2.1; simp at this ⊢; omega) (some ⟨Y + 1, 0, none⟩) 1 1 [UInt8.ofNat m1] (HL.out.1 _ HB.out.2.2.1) (by simp) rfl rfl rfl rfl ?_; intro A4 n4 c4 w4 hi4 hG; have H4 := Lib.hid (And.intro hG (((HB.out.2.1.alloc (by have := HB.out.2.1.size; omega) _).trans hG.below))); clear hG) | (refine wp_app2 (.tmp 65) (.tmp 66) Y (.slice A4 n4 c4) _ H4.out.1.own (by have := H4.out.2.size; omega) A1 m1 c1 bs (HB.out.2.2.2.1 _ H4.out.2) (by have := HL.out.2.2; simp; omega) rfl rfl rfl rfl ?_; intro A6 n6 c6 w6 hi6 hG; have H6 := Lib.hid (And.intro hG (H4.out.2.trans hG.below)); clear hG))
      go_ret
      exact ⟨A6, n6, c6, rfl, by rw [HL.out.2.1]; exact H6.out.1.own.mono (by omega), by have h9 := HB.out.2.2.2.2 _ H6.out.2; first | exact h9 | (rw [← hX]; exact h9)⟩
    · have t1 : ¬ (m1 : Int) < 128 := by omega
      have t1d : decide ((m1 : Int) < 128) = false := decide_eq_false t1
      have hlenh : hdr tag bs = [byteI tag] ++ [UInt8.ofNat (128 + (beMin m1).length)] ++ beMin m1 ++ bs := by unfold hdr; rw [← hnb, lenB_big h128]; simp
      rw [hbd] at hlenh
      obtain ⟨ML, hML⟩ : ∃ ML, (beMin m1).length = ML := ⟨_, rfl⟩
      have hbml := beMin_len_le (n := m1) (k := 3) (by omega)
      rw [hML] at hlenh hbml
      have HL := Lib.hid (And.intro hlenh (And.intro hML hnb))
      clear hlenh hML hbd hnb
      have hsB := HB.out.2.2.1
      go_wp2_with fail
      try rw [hwB]
      try rw [hY]
      go_wp2_with fail
      go_loopw [7, 8] (fun ll kk ws => ∃ (kn : Nat) (Al : Option Addr) (nl cl : Nat) (l : List UInt8), kn ≤ m1 ∧ kk = .int .i64 (kn : Int) ∧ ll = .slice Al nl cl ∧ Own ws (Y + 1) (.slice Al nl cl) l ∧ beMin kn ++ l = beMin m1 ∧ Below (Y + 1) wB ws) (fun _ kk _ => (intOf kk).toNat)
      case atStart => exact ⟨m1, none, 0, 0, [], by omega, rfl, rfl, Own.nil _ _, by simp, Below.refl _ _⟩
      case round =>
        obtain ⟨kn, Al, nl, cl, l, hkn, rfl, rfl, hOl, hbm, hBs⟩ := hrel
        have hls := hOl.len
        have hll := congrArg List.length hbm
        rw [List.length_append, HL.out.2.1] at hll
        have hsz2 : Y + 1 ≤ wr.heap.size := by have := hBs.size; omega
        by_cases hk0 : kn = 0
        · subst hk0
          rw [beMin_zero, List.nil_append] at hbm
          have hls2 : nl = ML := by rw [hls, hbm, HL.out.2.1]
          subst hls2
          subst hbm
          have hBLn := B_small (n := 128 + nl) (by omega)
          have hcs : (#[.int .u8 (128 + (nl : Int))] : Array Value) = ([UInt8.ofNat (128 + nl)].map B).toArray := by rw [List.map_cons, hBLn]; simp
          have hrl : ∀ w' : World, Rd (w'.alloc (.cells #[.int .u8 (128 + (nl : Int))] 5)) (some ⟨w'.heap.size, 0, none⟩) 1 1 [UInt8.ofNat (128 + nl)] := fun w' => rd_lit (w := w') (l2 := [UInt8.ofNat (128 + nl)]) (n := 1) hcs rfl (by omega)
          have HO2 := Lib.hid (And.intro (HB.out.1.below (hBs.mono (by omega))) (And.intro hOl (And.intro (HB.out.2.1.trans (hBs.mono (by omega))) hrl)))
          clear hls hll hBLn hcs hrl hBs hOl
          go_wp2_with (at_builtin; first | (refine wp_app2 (.tmp 55) (.tmp 60) Y (.slice (some ⟨Y, 0, none⟩) 1 1) [byteI tag] (HO2.out.1.alloc_ _) (by simp; omega) (some ⟨wr.heap.size, 0, none⟩) 1 1 [UInt8.ofNat (128 + nl)] (HO2.out.2.2.2 _) (by simp) rfl rfl rfl rfl ?_; intro A4 n4 c4 w4 hi4 hG; have H4 := Lib.hid (And.intro hG (And.intro ((HO2.out.2.2.1.alloc (by omega) _).trans hG.below) (((HO2.out.2.1.alloc_ _).keep (fun g hg => hG.grown.block g (by have := (HO2.out.2.1.lt hg).2; simp; omega) (fun e => by have h1 := (HO2.out.2.1.lt hg).1; injection e with e; simp only at e; omega))).rd))); clear hG) | (refine wp_app2 (.tmp 62) (.tmp 63) Y (.slice A4 n4 c4) _ H4.out.1.own (by have := H4.out.2.1.size; omega) Al nl cl _ H4.out.2.2 (by simp; have := HL.out.2.1; omega) rfl rfl rfl rfl ?_; intro A5 n5 c5 w5 hi5 hG; have H5 := Lib.hid (And.intro hG (H4.out.2.1.trans hG.below)); clear hG) | (refine wp_app2 (.tmp 65) (.tmp 66) Y (.slice A5 n5 c5) _ H5.out.1.own (by have := H5.out.2.size; omega) A1 m1 c1 bs (HB.out.2.2.2.1 _ H5.out.2) (by have := HL.out.2.1; have := HL.out.2.2; simp; omega) rfl rfl rfl rfl ?_; intro A6 n6 c6 w6 hi6 hG; have H6 := Lib.hid (And.intro hG (H5.out.2.trans hG.below)); clear hG))
          go_ret
          exact ⟨A6, n6, c6, rfl, by rw [HL.out.1]; exact H6.out.1.own.mono (by omega), by have h9 := HB.out.2.2.2.2 _ H6.out.2; first | exact h9 | (rw [← hX]; exact h9)⟩
        · have t2 : (0 : Int) < kn := by omega
          have t2d : decide ((0 : Int) < (kn : Int)) = true := decide_eq_true t2
          rw [← beMin_step hk0] at hbm
          have hq : ((kn : Int)).tdiv 256 = ((kn / 256 : Nat) : Int) := by rw [Int.tdiv_eq_ediv_of_nonneg (by omega)]; omega
          have hr : ((kn : Int)).tmod 256 = ((kn % 256 : Nat) : Int) := by rw [Int.tmod_eq_emod_of_nonneg (by omega)]; omega
          have hqk : kn / 256 < kn := by omega
          have hrk : kn % 256 < 256 := by omega
          obtain ⟨q, hq1⟩ : ∃ q, kn / 256 = q := ⟨_, rfl⟩
          obtain ⟨r, hr1⟩ : ∃ r, kn % 256 = r := ⟨_, rfl⟩
          rw [hq1] at hq hqk hbm
          rw [hr1] at hr hrk hbm
          have hrm : (r : Int) % 256 = r := by omega
          have hr8 : (r : Int) < 256 := by omega
          have hBr := B_small hrk
          have hcs : (#[.int .u8 (r : Int)] : Array Value) = ([UInt8.ofNat r].map B).toArray := by rw [List.map_cons, hBr]; rfl
          obtain ⟨wC, hwC⟩ : ∃ wC, wr.alloc (.cells #[.int .u8 (r : Int)] 5) = wC := ⟨_, rfl⟩
          have bC : Blk wC wr.heap.size 5 #[B (UInt8.ofNat r)] := by rw [hBr, ← hwC]; exact Blk.new _ _ _
          have hbC : Below wr.heap.size wr wC := by rw [← hwC]; exact (Below.refl _ _).alloc (Nat.le_refl _) _
          have hOC := Own.one (base := Y + 1) bC hsz2
          have HS := Lib.hid (And.intro hbm (And.intro (hOl.below hbC).rd (And.intro (hBs.trans (hbC.mono hsz2)) hOC)))
          clear hq1 hr1 hcs hBr hbm hOl hBs bC hOC hbC hls
          have hll2 : l.length ≤ 3 := by omega
          clear hll
          subst hwC
          go_wp2_with (at_builtin; go_loud (refine wp_app2 (.tmp 52) (.tmp 53) (Y + 1) (.slice (some ⟨wr.heap.size, 0, none⟩) 1 1) [UInt8.ofNat r] HS.out.2.2.2 (by simp; omega) Al nl cl l HS.out.2.1 (by simp; omega) rfl rfl rfl rfl ?_; intro A4 n4 c4 w4 hi4 hG; have H4 := Lib.hid hG; clear hG))
          go_roundw
          case measure => simp [intOf]; omega
          exact ⟨q, A4, n4, c4, UInt8.ofNat r :: l, by omega, rfl, rfl, H4.out.own, HS.out.1, HS.out.2.2.1.trans H4.out.below⟩
end Go.Proofs.Ytgkhhinjdojbhaa
