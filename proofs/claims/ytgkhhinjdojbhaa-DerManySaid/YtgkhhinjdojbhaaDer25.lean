/-
  DER: the law DerMany.
-/
import Derived.Test.YtgkhhinjdojbhaaDer23
namespace Go.Proofs.Ytgkhhinjdojbhaa
open Go.RowKit

/-- Nodes upon nodes: i levels, k kids each. -/
def tow (k : Nat) : Nat → Nd
  | 0 => intNd 0
  | i + 1 => .mk 48 [] (List.replicate k (tow k i))
def tsz (k : Nat) : Nat → Nat
  | 0 => 1
  | i + 1 => 1 + k * tsz k i
theorem int0 : intNd 0 = .mk 2 [0] [] := rfl
theorem sizeAll_rep (k : Nat) (n : Nd) : sizeAll (List.replicate k n) = k * n.size := by
  induction k with
  | zero => simp [sizeAll]
  | succ k ih => rw [List.replicate_succ, sizeAll, ih, Nat.succ_mul]; omega
theorem okAll_rep (k d : Nat) (n : Nd) (hk : 1 ≤ k) : okAll d (List.replicate k n) = n.ok d := by
  induction k with
  | zero => omega
  | succ k ih =>
    rw [List.replicate_succ, okAll]
    by_cases h : k = 0
    · subst h; simp [okAll]
    · rw [ih (by omega), Bool.and_self]
theorem encAll_rep (k : Nat) (n : Nd) : (encAll (List.replicate k n)).length = k * n.enc.length := by
  induction k with
  | zero => simp [encAll]
  | succ k ih => rw [List.replicate_succ, encAll, List.length_append, ih, Nat.succ_mul]; omega
theorem tow_size (k : Nat) : ∀ i, (tow k i).size = tsz k i
  | 0 => by rw [tow, int0, Nd.size, sizeAll, tsz]
  | i + 1 => by rw [tow, Nd.size, sizeAll_rep, tow_size k i, tsz]
theorem tow_ok (k : Nat) (hk : 1 ≤ k) : ∀ i d, (tow k i).ok d = decide (i < d)
  | i, 0 => by cases h : tow k i; rw [Nd.ok]; simp
  | 0, d + 1 => by rw [tow, int0, Nd.ok, if_neg (by decide)]; simp [plainOk]
  | i + 1, d + 1 => by
    rw [tow, Nd.ok, if_pos rfl, okAll_rep k d _ hk, tow_ok k hk i d]
    simp
theorem tsz_pos (k i : Nat) : 1 ≤ tsz k i := by cases i <;> rw [tsz] <;> omega
theorem tow_enc (k : Nat) : ∀ i, tsz k i ≤ 1024 → (tow k i).enc.length ≤ 5 * tsz k i
  | 0, _ => by rw [tow, int0, Nd.enc, if_neg (by decide), tsz]; decide
  | i + 1, h => by
    rw [tsz] at h ⊢
    have hle : tsz k i ≤ 1024 := by
      cases k with
      | zero => cases i <;> simp [tsz]
      | succ k => have : tsz (k + 1) i ≤ (k + 1) * tsz (k + 1) i := Nat.le_mul_of_pos_left _ (by omega); omega
    have ih := tow_enc k i hle
    rw [tow, Nd.enc, if_pos rfl, hdr_len, encAll_rep]
    have h1 : k * (tow k i).enc.length ≤ k * (5 * tsz k i) := Nat.mul_le_mul_left _ ih
    have h2 : k * (5 * tsz k i) = 5 * (k * tsz k i) := by rw [Nat.mul_left_comm]
    have h3 := lenB_le (n := k * (tow k i).enc.length) (by omega)
    omega
theorem tow_may (k i : Nat) (hk : 1 ≤ k) : (tow k i).may = (decide (tsz k i ≤ 1024) && decide (i < 16)) := by
  unfold Nd.may; rw [tow_ok k hk, tow_size, Bool.and_comm]
theorem tow_wok (k i : Nat) (hk : 1 ≤ k) : (tow k i).wok = (tow k i).may := by
  unfold Nd.wok
  cases h : (tow k i).may with
  | false => rfl
  | true =>
    rw [tow_may k i hk, Bool.and_eq_true, decide_eq_true_eq] at h
    have := tow_enc k i h.1
    rw [decide_eq_true (by omega)]; rfl
theorem tow_out (k i : Nat) (hk : 1 ≤ k) : decide (0 < (tow k i).out.length) = (tow k i).may := by
  unfold Nd.out
  rw [tow_wok k i hk]
  cases h : (tow k i).may with
  | false => rfl
  | true =>
    have : 1 ≤ (tow k i).enc.length := by cases tow k i with | mk t b ks => rw [Nd.enc, hdr_len]; omega
    simp; omega
/-- The law's count. -/
def cntL (k : Nat) : Nat → Nat
  | 0 => 1
  | i + 1 => if cntL k i ≤ 1024 then 1 + k * cntL k i else cntL k i
theorem cntL_le (k : Nat) (hk : 1 ≤ k) : ∀ i, (cntL k i ≤ 1024 → cntL k i = tsz k i) ∧ (1024 < cntL k i → 1024 < tsz k i) ∧ cntL k i ≤ 1 + k * 1024
  | 0 => by rw [cntL, tsz]; exact ⟨fun _ => rfl, fun h => h, by omega⟩
  | i + 1 => by
    obtain ⟨h1, h2, h3⟩ := cntL_le k hk i
    rw [cntL, tsz]
    by_cases hc : cntL k i ≤ 1024
    · rw [if_pos hc, ← h1 hc]
      exact ⟨fun _ => rfl, fun h => h, by have := Nat.mul_le_mul_left k hc; omega⟩
    · rw [if_neg hc]
      have h4 := h2 (by omega)
      have : tsz k i ≤ k * tsz k i := Nat.le_mul_of_pos_left _ hk
      exact ⟨fun h => absurd h hc, fun _ => by omega, h3⟩
theorem cntL_dec (k i : Nat) (hk : 1 ≤ k) : decide (cntL k i ≤ 1024) = decide (tsz k i ≤ 1024) := by
  obtain ⟨h1, h2, _⟩ := cntL_le k hk i
  by_cases h : cntL k i ≤ 1024
  · rw [decide_eq_true h, decide_eq_true (by rw [← h1 h]; exact h)]
  · rw [decide_eq_false h, decide_eq_false (by have := h2 (by omega); omega)]
theorem mul_bd {j n : Nat} (hj : j ≤ 5) (hn : n ≤ 1024) : (j : Int) * (n : Int) ≤ 5120 ∧ (0 : Int) ≤ (j : Int) * (n : Int) := by
  have h9 : j * n ≤ 5 * 1024 := Nat.mul_le_mul hj hn
  rw [← Int.natCast_mul]
  omega
/-- What stands between two rounds. -/
structure MI (w : World) (N6 k : Nat) (wr : World) (i : Nat) (f : NF) : Prop where
  bN : Blk wr N6 25 f.cells.toArray
  nd : NdR (fun b => b < wr.heap.size ∧ b ≠ N6) NB wr f (tow k i)
  below : Below w.heap.size w wr
  /-- The same within a round. -/
structure MJ (w wr : World) (N6 N9 : Nat) (wj : World) (j : Nat) (f : NF) (A : Option Addr) (m c : Nat) : Prop where
  bX : Blk wj N9 25 #[.int .i64 48, .slice none 0 0, .slice A m c]
  own : OwnE Try.eN wj (N9 + 1) (.slice A m c) (List.replicate j f)
  below : Below N9 wr wj
  size : N9 + 1 ≤ wj.heap.size
set_option maxRecDepth 100000 in
set_option maxHeartbeats 8000000 in
theorem derMany_any (a b : Int) (w : World) :
    Calls Try.prog 6 #[.int .i64 a, .int .i64 b] w fun e w' => e = .returned (.bool true) ∧ Below w.heap.size w w' := by
  have hbg := begun_any w
  go_enter Try.func6, Try.ntmps6
  go_wp2_with fail
  refine hbg.mono ?_
  rintro e w1 ⟨rfl, hb1⟩
  clear hbg
  have H1 := Lib.hid hb1
  clear hb1
  by_cases h1 : a < 0
  · have t1 : decide (a < 0) = true := decide_eq_true h1
    go_wp2_with fail
    go_ret
    exact ⟨rfl, H1.out⟩
  have t1 : decide (a < 0) = false := decide_eq_false h1
  by_cases h2 : 16 < a
  · have t2 : decide (16 < a) = true := decide_eq_true h2
    go_wp2_with fail
    go_ret
    exact ⟨rfl, H1.out⟩
  have t2 : decide (16 < a) = false := decide_eq_false h2
  by_cases h3 : b < 1
  · have t3 : decide (b < 1) = true := decide_eq_true h3
    go_wp2_with fail
    go_ret
    exact ⟨rfl, H1.out⟩
  have t3 : decide (b < 1) = false := decide_eq_false h3
  by_cases h4 : 5 < b
  · have t4 : decide (5 < b) = true := decide_eq_true h4
    go_wp2_with fail
    go_ret
    exact ⟨rfl, H1.out⟩
  have t4 : decide (5 < b) = false := decide_eq_false h4
  obtain ⟨L, rfl⟩ : ∃ L : Nat, a = L := ⟨a.toNat, by omega⟩
  obtain ⟨k, rfl⟩ : ∃ k : Nat, b = k := ⟨b.toNat, by omega⟩
  have hL : L ≤ 16 := by omega
  have hk1 : 1 ≤ k := by omega
  have hk5 : k ≤ 5 := by omega
  have hi := int_any none 0 0 [] w1 ⟨rfl, .inl rfl⟩ ⟨Nat.le_refl _, by decide⟩ (fun _ => rfl) (by omega)
  rw [show valL [] = 0 from rfl] at hi
  go_wp2_with fail
  clear t1 t2 t3 t4 h1 h2 h3 h4
  refine hi.mono ?_
  rintro e w2 ⟨⟨tn, B1, n1, q1, B2, n2, q2⟩, rfl, hN1, hb2⟩
  clear hi
  obtain ⟨N6, hN6⟩ : ∃ N6, w2.heap.size = N6 := ⟨_, rfl⟩
  have bZ : Blk (w2.alloc (.cells #[.int .i64 0, .slice none 0 0, .slice none 0 0] 25)) N6 25 #[.int .i64 0, .slice none 0 0, .slice none 0 0] := by rw [← hN6]; exact Blk.new _ _ _
  have H2 := Lib.hid (And.intro hN1 (And.intro bZ (H1.out.trans (hb2.mono H1.out.size))))
  clear hN1 hb2 bZ
  simp only [NF.val]
  go_upto_region 5 with (refine wpList_store_arr rfl 25 (.tmp 6) (.tmp 30) rfl N6 25 _ [.int .i64 tn, .slice B1 n1 q1, .slice B2 n2 q2] H2.out.2.1 rfl rfl (by kernel_rfl) rfl rfl ?_; intro w3 hB3 hT3; have H3b := Lib.hid (And.intro hB3 hT3); clear hB3 hT3)
  try simp only [Act.put]
  have hM0 : MI w N6 k w3 0 ⟨tn, B1, n1, q1, B2, n2, q2⟩ := by
    have hb3 := boxed hN6 H3b.out.2
    refine ⟨H3b.out.1, ?_, H2.out.2.2.trans (hb3.mono H2.out.2.2.size)⟩
    exact ((NdR.bel H2.out.1 hb3 (fun b hb => hb.2))).mono (fun b hb => ⟨by have := hb3.size; have := hb.2; omega, by have := hb.2; omega⟩) (fun _ h => h)
  have hN6w : w.heap.size ≤ N6 := by rw [← hN6]; exact H2.out.2.2.size
  have HM0 := Lib.hid hM0
  clear hM0
  go_wp2_with fail
  go_loopw [7, 8] (fun cc ii wr => ∃ (i : Nat) (f : NF), i ≤ L ∧ ii = .int .i64 (i : Int) ∧ cc = .int .i64 (cntL k i : Int) ∧ MI w N6 k wr i f) (fun _ ii _ => L - (intOf ii).toNat)
  case atStart => exact ⟨0, _, by omega, rfl, rfl, HM0.out⟩
  case round =>
    obtain ⟨i, ⟨tf, D1, p1, r1, D2, p2, r2⟩, hil, rfl, rfl, hM⟩ := hrel
    have hcl := cntL_le k hk1 i
    have hnx : cntL k (i + 1) = if cntL k i ≤ 1024 then 1 + k * cntL k i else cntL k i := rfl
    have hcd := cntL_dec k i hk1
    obtain ⟨cn, hcn⟩ : ∃ cn, cntL k i = cn := ⟨_, rfl⟩
    rw [hcn] at hcl hnx hcd ⊢
    have hcb : cn ≤ 5121 := by have := hcl.2.2; have := Nat.mul_le_mul_right 1024 hk5; omega
    have HM := Lib.hid (And.intro hM (And.intro hnx hcd))
    clear hM hcl hnx hcd hcn
    have y0 := HM.out.1.bN.cell 0
    have y1 := HM.out.1.bN.cell 1
    have y2 := HM.out.1.bN.cell 2
    simp only [NF.cells, List.getElem?_toArray, List.getElem?_cons_succ, List.getElem?_cons_zero] at y0 y1 y2
    by_cases hlt : i < L
    · have hi : (i : Int) < L := by omega
      have hd : decide (i < L) = true := decide_eq_true hlt
      obtain ⟨N9, hN9⟩ : ∃ N9, wr.heap.size = N9 := ⟨_, rfl⟩
      have hN69 : N6 < N9 := by rw [← hN9]; exact HM.out.1.bN.lt
      have bZ : Blk (wr.alloc (.cells #[.int .i64 0, .slice none 0 0, .slice none 0 0] 25)) N9 25 #[.int .i64 0, .slice none 0 0, .slice none 0 0] := by rw [← hN9]; exact Blk.new _ _ _
      have HZ := Lib.hid bZ
      clear bZ
      go_upto_region 10 with (refine wpList_store_arr rfl 25 (.tmp 9) (.tmp 36) rfl N9 25 _ [.int .i64 48, .slice none 0 0, .slice none 0 0] HZ.out rfl rfl (by kernel_rfl) rfl rfl ?_; intro w4 hB4 hT4; have H4 := Lib.hid (And.intro hB4 hT4); clear hB4 hT4)
      try simp only [Act.put]
      have hJ0 : MJ w wr N6 N9 w4 0 ⟨tf, D1, p1, r1, D2, p2, r2⟩ none 0 0 := by
        have hb4 := boxed hN9 H4.out.2
        rw [hN9] at hb4
        exact ⟨H4.out.1, OwnE.nil _ _, hb4, H4.out.1.lt⟩
      have HJ0 := Lib.hid hJ0
      clear hJ0 y0 y1 y2
      obtain ⟨wo, hwo⟩ : ∃ wo, wo = wr := ⟨_, rfl⟩
      subst hwo
      go_wp2_with fail
      go_loopw [10] (fun jj wr => ∃ (j : Nat) (A : Option Addr) (m c : Nat), j ≤ k ∧ jj = .int .i64 (j : Int) ∧ MJ w wo N6 N9 wr j ⟨tf, D1, p1, r1, D2, p2, r2⟩ A m c) (fun jj _ => k - (intOf jj).toNat)
      case atStart => exact ⟨0, none, 0, 0, by omega, rfl, HJ0.out⟩
      case round =>
        obtain ⟨j, A, m, c, hj, rfl, hJ⟩ := hrel
        have hbN := hJ.below.block N6 hN69
        have bN := HM.out.1.bN.keep hbN
        have y0 := bN.cell 0
        have y1 := bN.cell 1
        have y2 := bN.cell 2
        have z0 := hJ.bX.cell 0
        have z1 := hJ.bX.cell 1
        have z2 := hJ.bX.cell 2
        have f2 := hJ.bX.frozen 2
        simp only [NF.cells, List.getElem?_toArray, List.getElem?_cons_succ, List.getElem?_cons_zero] at y0 y1 y2 z0 z1 z2
        have HJ := Lib.hid (And.intro hJ bN)
        have hsz := hJ.size
        clear hJ bN hbN
        by_cases hlt2 : j < k
        · have hi2 : (j : Int) < k := by omega
          have hd2 : decide (j < k) = true := decide_eq_true hlt2
          go_wp2_with (at_builtin; go_loud (refine wp_appE Try.eN (.tmp 43) (.tmp 45) (N9 + 1) (.slice A m c) (List.replicate j ⟨tf, D1, p1, r1, D2, p2, r2⟩) (HJ.out.1.own.below ((Below.refl _ _).alloc (Nat.le_refl _) _)) (by simp; omega) (some ⟨wr.heap.size, 0, none⟩) 1 1 [⟨tf, D1, p1, r1, D2, p2, r2⟩] (Blk.rdC Try.eN (Blk.new _ _ _) rfl) (fun h => by cases h) (by simp; omega) rfl rfl rfl rfl ?_; intro A6 n6 c6 w6 hG; have H6 := Lib.hid hG; have hb6 : Blk w6 N9 25 #[.int .i64 48, .slice none 0 0, .slice A m c] := (HJ.out.1.bX.alloc _).keep (hG.below.block N9 (by omega)); have u2 := hb6.cell 2; simp only [List.getElem?_toArray, List.getElem?_cons_succ, List.getElem?_cons_zero] at u2; have g2 := hb6.frozen 2; have HB6 := Lib.hid hb6; clear hG hb6))
          go_roundw
          case measure => simp [intOf]; omega
          have hT7 : Turn [N9] w6 (w6.setCell ⟨N9, 2, none⟩ (.slice A6 n6 c6)) := (Turn.refl [N9] w6).setCell (.inl (by simp)) _
          have h6 := H6.out.below.size
          simp at h6
          have h7 := hT7.size
          refine ⟨j + 1, A6, n6, c6, by omega, by simp, ?_, ?_, ?_, by omega⟩
          · have := HB6.out.set_ 2 (.slice A6 n6 c6)
            simpa using this
          · rw [List.replicate_succ']
            exact H6.out.own.turn hT7 (fun g hg => by have := (H6.out.own.lt hg).1; simp; omega)
          · exact below_turn (HJ.out.1.below.trans (((Below.refl N9 wr).alloc (by omega) _).trans (H6.out.below.mono (by omega)))) hT7 (fun t ht => by simp at ht; omega) (by omega)
        · obtain rfl : j = k := by omega
          have hi2 : ¬ (j : Int) < j := by omega
          have hd2 : decide (j < j) = false := decide_eq_false hlt2
          go_upto_region 15 with (refine wpList_store_arr rfl 25 (.tmp 6) (.tmp 48) rfl N6 25 _ [.int .i64 48, .slice none 0 0, .slice A m c] HJ.out.2 rfl rfl (by kernel_rfl) rfl rfl ?_; intro w8 hB8 hT8; have H8 := Lib.hid (And.intro hB8 hT8); clear hB8 hT8)
          try simp only [Act.put]
          have hmk := HJ.out.1.own.len
          simp at hmk
          have hM' : MI w N6 j w8 (i + 1) ⟨48, none, 0, 0, A, m, c⟩ := by
            have hs8 := H8.out.2.size
            have hN9w : w.heap.size ≤ N9 := by rw [← hN9]; exact HM.out.1.below.size
            refine ⟨H8.out.1, ?_, below_turn (HM.out.1.below.trans (HJ.out.1.below.mono hN9w)) H8.out.2 (fun t ht => by simp at ht; omega) (by omega)⟩
            refine NdR.mk ⟨48, none, 0, 0, A, m, c⟩ [] (List.replicate j ⟨tf, D1, p1, r1, D2, p2, r2⟩) (List.replicate j (tow j i)) (Rd.nil _) (fun a ha => by cases ha) (HJ.out.1.own.rd.turn H8.out.2 (fun a ha => by have := (HJ.out.1.own.blk_le ha).1; simp; omega)) HJ.out.1.own.max.1 (fun a ha => by have := HJ.out.1.own.blk_le ha; exact ⟨by omega, by omega⟩) (fun _ => ⟨rfl, rfl, rfl⟩) (by simp) (fun x g kd hg hkd => ?_)
            have e1 := List.eq_of_mem_replicate (List.mem_of_getElem? hg)
            have e2 := List.eq_of_mem_replicate (List.mem_of_getElem? hkd)
            subst e1
            subst e2
            have hnd := HM.out.1.nd
            rw [hN9] at hnd
            refine (hnd.keep (by omega) (fun b hb => (H8.out.2.block b (by have := hb.1; omega) (by simpa using hb.2)).trans (HJ.out.1.below.block b hb.1))).mono (fun b hb => ⟨by have := hb.1; omega, hb.2⟩) (fun _ h => h)
          have HM' := Lib.hid hM'
          clear hM' hmk z0 z1 z2 y0 y1 y2 f2
          by_cases hc : cn ≤ 1024
          · have hci : (cn : Int) ≤ 1024 := by omega
            have hcid : decide ((cn : Int) ≤ 1024) = true := decide_eq_true hci
            have hnx := HM.out.2.1
            rw [if_pos hc] at hnx
            obtain ⟨hmul, hmul0⟩ := mul_bd hk5 hc
            have HX := Lib.hid hnx
            clear hnx
            go_wp2_with fail
            go_roundw
            case measure => simp [intOf]; omega
            exact ⟨i + 1, _, by omega, by simp, by rw [HX.out]; simp, HM'.out⟩
          · have hci : ¬ (cn : Int) ≤ 1024 := by omega
            have hcid : decide ((cn : Int) ≤ 1024) = false := decide_eq_false hci
            have hnx := HM.out.2.1
            rw [if_neg hc] at hnx
            have HX := Lib.hid hnx
            clear hnx
            go_wp2_with fail
            go_roundw
            case measure => simp [intOf]; omega
            exact ⟨i + 1, _, by omega, by simp, by rw [HX.out], HM'.out⟩
    · obtain rfl : i = L := by omega
      have hi : ¬ (i : Int) < i := by omega
      have hd : decide (i < i) = false := decide_eq_false hlt
      have hmay := tow_may k i hk1
      have hwok := tow_wok k i hk1
      have hout := tow_out k i hk1
      rw [← HM.out.2.2] at hmay
      have hw := writeTop_any _ (tow k i) ⟨tf, D1, p1, r1, D2, p2, r2⟩ wr HM.out.1.nd (fun b hb => hb.1)
      rw [hwok] at hw
      obtain ⟨mv, hmv⟩ : ∃ mv, (tow k i).may = mv := ⟨_, rfl⟩
      rw [hmv] at hw hmay hout
      obtain ⟨ou, hou⟩ : ∃ ou, (tow k i).out = ou := ⟨_, rfl⟩
      rw [hou] at hw hout
      have HQ := Lib.hid (And.intro hmv (And.intro hmay hout))
      clear hmay hwok hout hmv hou
      simp only [NF.val] at hw
      go_wp2_with fail
      refine hw.mono ?_
      rintro e w7 ⟨A7, n7, c7, rfl, ho7, hb7⟩
      have hn7 := ho7.len
      have H7 := Lib.hid (And.intro (HM.out.1.bN.below hb7) (And.intro (HM.out.1.below.trans (hb7.mono HM.out.1.below.size)) (NdR.bel HM.out.1.nd hb7 (fun b hb => hb.1))))
      have hs7 := hb7.size
      clear ho7 hb7 hw y0 y1 y2
      have y0 := H7.out.1.cell 0
      have y1 := H7.out.1.cell 1
      have y2 := H7.out.1.cell 2
      simp only [NF.cells, List.getElem?_toArray, List.getElem?_cons_succ, List.getElem?_cons_zero] at y0 y1 y2
      have hmy := mayTop_any _ _ (tow k i) ⟨tf, D1, p1, r1, D2, p2, r2⟩ w7 H7.out.2.2 (fun b hb => by have := hb.1; omega)
      rw [HQ.out.1] at hmy
      simp only [NF.val] at hmy
      have hln : decide ((0 : Int) < (n7 : Int)) = mv := by
        rw [← HQ.out.2.2, hn7]
        by_cases h : 0 < ou.length
        · rw [decide_eq_true h, decide_eq_true (by omega)]
        · rw [decide_eq_false h, decide_eq_false (by omega)]
      have HY := Lib.hid (And.intro hmy hln)
      clear hmy hln hn7
      have hmb := HQ.out.2.1
      cases mv with
      | true =>
        have h9 := hmb.symm
        rw [Bool.and_eq_true, decide_eq_true_eq, decide_eq_true_eq] at h9
        obtain ⟨h91, h92⟩ := h9
        have t5 : (cn : Int) ≤ 1024 := by omega
        have t5d : decide ((cn : Int) ≤ 1024) = true := decide_eq_true t5
        have t6 : (i : Int) < 16 := by omega
        have t6d : decide ((i : Int) < 16) = true := decide_eq_true t6
        have hln := HY.out.2
        have hln2 : (0 : Int) < n7 := of_decide_eq_true hln
        have hln3 : 0 < n7 := by omega
        clear hmb
        go_wp2_with fail
        refine HY.out.1.mono ?_
        rintro e w8 ⟨rfl, hb8⟩
        have H8 := Lib.hid (H7.out.2.1.trans (hb8.mono H7.out.2.1.size))
        clear hb8
        go_wp2_with fail
        go_ret
        exact ⟨rfl, H8.out⟩
      | false =>
        have hln := HY.out.2
        have hln2 : ¬ (0 : Int) < n7 := of_decide_eq_false hln
        obtain rfl : n7 = 0 := by omega
        have HMB := Lib.hid hmb
        clear hln hln2 hmb
        by_cases h91 : cn ≤ 1024
        · have t5 : (cn : Int) ≤ 1024 := by omega
          have t5d : decide ((cn : Int) ≤ 1024) = true := decide_eq_true t5
          have h92 : ¬ i < 16 := fun h => by have h9 := HMB.out; rw [decide_eq_true h91, decide_eq_true h] at h9; cases h9
          have t6 : ¬ (i : Int) < 16 := by omega
          have t6d : decide ((i : Int) < 16) = false := decide_eq_false t6
          go_wp2_with fail
          refine HY.out.1.mono ?_
          rintro e w8 ⟨rfl, hb8⟩
          have H8 := Lib.hid (H7.out.2.1.trans (hb8.mono H7.out.2.1.size))
          clear hb8
          go_wp2_with fail
          go_ret
          exact ⟨rfl, H8.out⟩
        · have t5 : ¬ (cn : Int) ≤ 1024 := by omega
          have t5d : decide ((cn : Int) ≤ 1024) = false := decide_eq_false t5
          go_wp2_with fail
          refine HY.out.1.mono ?_
          rintro e w8 ⟨rfl, hb8⟩
          have H8 := Lib.hid (H7.out.2.1.trans (hb8.mono H7.out.2.1.size))
          clear hb8
          go_wp2_with fail
          go_ret
          exact ⟨rfl, H8.out⟩
end Go.Proofs.Ytgkhhinjdojbhaa
