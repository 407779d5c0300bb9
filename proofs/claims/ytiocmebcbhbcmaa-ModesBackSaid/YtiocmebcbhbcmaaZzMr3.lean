/-
  Modes, plain: decrypting undoes encrypting, in every mode.
  Modes, the document's answer: eight, next, double.
  Modes, the document's answer: next, double.
-/
import Derived.Test.YtiocmebcbhbcmaaZzMr1
import Derived.Test.YtiocmebcbhbcmaaZzMo20
namespace Go.Proofs.Ytiocmebcbhbcmaa
set_option maxRecDepth 100000
open Go.RowKit

theorem cnt1_twice (E : List UInt8 → List UInt8) (wd : Nat) (hE : ∀ l : List UInt8, l.length = 16 → E l ≠ []) : ∀ (a pad ctr : List UInt8), ctr.length = 16 → (cnt1 E wd (cnt1 E wd a pad ctr).1 pad ctr).1 = a
  | [], pad, ctr, hc => rfl
  | x :: a, y :: pad, ctr, hc => by
    have ih := cnt1_twice E wd hE a pad ctr hc
    simp only [cnt1]
    rw [ih, UInt8.xor_assoc, UInt8.xor_self, UInt8.xor_zero]
  | x :: a, [], ctr, hc => by
    cases h : E ctr with
    | nil => exact absurd h (hE ctr hc)
    | cons y p =>
      have ih := cnt1_twice E wd hE a p (stepL wd ctr) (by rw [stepL_len]; exact hc)
      simp only [cnt1, h]
      rw [ih, UInt8.xor_assoc, UInt8.xor_self, UInt8.xor_zero]
theorem blkF_back (mode : Nat) (E D : List UInt8 → List UInt8) (hE : ∀ l, l.length = 16 → (E l).length = 16) (hDE : ∀ l, l.length = 16 → D (E l) = l) (iv b : List UInt8) (hi : mode ≠ 1 → iv.length = 16) (hb : b.length = 16) :
    (blkF mode true E D iv b).1.length = 16 ∧ (mode ≠ 1 → (blkF mode true E D iv b).2.length = 16) ∧ blkF mode false E D iv (blkF mode true E D iv b).1 = (b, (blkF mode true E D iv b).2) := by
  unfold blkF
  by_cases hm : mode = 1
  · simp only [if_pos hm, if_true]
    refine ⟨hE b hb, fun h => absurd hm h, ?_⟩
    simp only [Bool.false_eq_true, if_false]
    rw [hDE b hb]
  · have hx : (xorL b iv).length = 16 := xorL_lenLe _ _ 16 hb (by rw [hi hm]; exact Nat.le_refl _)
    simp only [if_neg hm, if_true]
    refine ⟨hE _ hx, fun _ => hE _ hx, ?_⟩
    simp only [Bool.false_eq_true, if_false]
    rw [hDE _ hx, xorL_back _ _ (by rw [hb, hi hm])]
theorem blkN_back (mode : Nat) (E D : List UInt8 → List UInt8) (hE : ∀ l, l.length = 16 → (E l).length = 16) (hDE : ∀ l, l.length = 16 → D (E l) = l) : ∀ (q : Nat) (iv l : List UInt8), (mode ≠ 1 → iv.length = 16) → 16 * q ≤ l.length →
    (blkN mode true E D q iv l).1.length = 16 * q ∧ (mode ≠ 1 → (blkN mode true E D q iv l).2.length = 16) ∧ blkN mode false E D q iv (blkN mode true E D q iv l).1 = (l.take (16 * q), (blkN mode true E D q iv l).2)
  | 0, iv, l, hi, _ => ⟨rfl, hi, by simp [blkN]⟩
  | q + 1, iv, l, hi, hl => by
    have hb : (l.take 16).length = 16 := by rw [List.length_take]; omega
    obtain ⟨h1, h2, h3⟩ := blkF_back mode E D hE hDE iv (l.take 16) hi hb
    obtain ⟨k1, k2, k3⟩ := blkN_back mode E D hE hDE q (blkF mode true E D iv (l.take 16)).2 (l.drop 16) h2 (by rw [List.length_drop]; omega)
    simp only [blkN]
    refine ⟨by rw [List.length_append, h1, k1]; omega, k2, ?_⟩
    rw [List.take_append_of_le_length (by omega), List.take_of_length_le (by omega), List.drop_append, List.drop_eq_nil_of_le (by omega), List.nil_append, h1, Nat.sub_self, List.drop_zero, h3]
    simp only
    rw [k3]
    simp only
    rw [show 16 * (q + 1) = 16 + 16 * q by omega, List.take_add]
theorem strip_pad (r : List UInt8) (h : r.length < 16) : stripF (r ++ List.replicate (16 - r.length) (UInt8.ofNat (16 - r.length))) = (r, 0) := by
  obtain ⟨n, hn⟩ : ∃ n, 16 - r.length = n := ⟨_, rfl⟩
  have h1 : 1 ≤ n ∧ n ≤ 16 := by omega
  have hz : (UInt8.ofNat n).toNat = n := by rw [UInt8.toNat_ofNat']; exact Nat.mod_eq_of_lt (by omega)
  have hg : (r ++ List.replicate n (UInt8.ofNat n)).getD 15 0 = UInt8.ofNat n := by
    rw [List.getD_eq_getElem?_getD, List.getElem?_append_right (by omega), List.getElem?_replicate_of_lt (by omega)]
    rfl
  rw [hn]
  unfold stripF
  rw [hg, hz, show 16 - n = r.length by omega, List.drop_left', if_pos ⟨h1.1, h1.2, rfl⟩, List.take_left']
  · rfl
  · rfl
theorem tagL_len (E : List UInt8 → List UInt8) (data out mask : List UInt8) (hm : mask.length = 16) : (tagL E data out mask).length = 16 := by
  unfold tagL
  exact xorL_lenLe _ _ 16 (by unfold gh; simp [wr16, bytes64]) (by rw [hm]; exact Nat.le_refl _)
theorem PS.j_len (s : PS) (h : parOk s.mode s.p) (hm : s.mode = 5) : s.j.length = 16 := by
  have h1 := s.c0_len h (.inr hm)
  unfold PS.c0 at h1
  rw [if_neg (by omega), stepL_len] at h1
  exact h1
/-- What the law asks of a text: of ECB and CBC whole blocks. -/
theorem all_back (mode : Int) (k p b : List UInt8) (hb : mode = 1 ∨ mode = 2 → b.length % 16 = 0) : ((allF mode true k p b).2 ≠ 0 → mayF mode k p = (allF mode true k p b).2) ∧ ((allF mode true k p b).2 = 0 → allF mode false k p (allF mode true k p b).1 = (b, 0)) ∧ (allF mode true k p b).1.length ≤ b.length + 32 := by
  unfold allF mayF
  by_cases hmode : mode < 1 ∨ 5 < mode
  · rw [if_pos hmode, if_pos hmode]
    exact ⟨fun _ => rfl, fun h => (by cases h), by simp⟩
  rw [if_neg hmode, if_neg hmode]
  by_cases hk : keyOk k
  case neg =>
    rw [if_pos hk, if_pos hk]
    exact ⟨fun _ => rfl, fun h => (by cases h), by simp⟩
  have hk' : ¬ ¬ keyOk k := fun h => h hk
  rw [if_neg hk', if_neg hk']
  by_cases hp : parOk mode.toNat p
  case neg =>
    rw [if_pos hp, if_pos hp]
    exact ⟨fun _ => rfl, fun h => (by cases h), by simp⟩
  have hp' : ¬ ¬ parOk mode.toNat p := fun h => h hp
  rw [if_neg hp', if_neg hp']
  obtain ⟨M, hM⟩ : ∃ M, mode.toNat = M := ⟨_, rfl⟩
  have hmi : mode = (M : Int) := by omega
  have hM5 : 1 ≤ M ∧ M ≤ 5 := by omega
  rw [hM] at hp
  have hp2 : ¬ ¬ parOk M p := fun h => h hp
  rw [hM, if_neg hmode, if_neg hk', if_neg hp2]
  have hks : (rks k).length = 16 * ((rks k).length / 16) := by have := rks_len k hk; omega
  have hR0 : 0 < (rks k).length / 16 := by have := rks_len k hk; omega
  obtain ⟨S, hS⟩ : ∃ S, PSof M true k p = S := ⟨_, rfl⟩
  obtain ⟨T, hT⟩ : ∃ T, PSof M false k p = T := ⟨_, rfl⟩
  have hE : ∀ l : List UInt8, l.length = 16 → (S.E l).length = 16 := fun l hl => by rw [← hS]; exact enc_ne _ _ l hl hks
  have hDE : ∀ l : List UInt8, l.length = 16 → S.D (S.E l) = l := fun l hl => by rw [← hS]; exact dec_of_enc _ _ l hks hR0 hl
  have hTE : T.E = S.E := by rw [← hS, ← hT]; rfl
  have hTD : T.D = S.D := by rw [← hS, ← hT]; rfl
  have sm : S.mode = M := by rw [← hS]; rfl
  have tm : T.mode = M := by rw [← hT]; rfl
  have se : S.enc = true := by rw [← hS]; rfl
  have te : T.enc = false := by rw [← hT]; rfl
  have sp : S.p = p := by rw [← hS]; rfl
  have tp : T.p = p := by rw [← hT]; rfl
  have hcn : ∀ l, T.cn l = S.cn l := fun l => by rw [← hS, ← hT]; rfl
  have hj : T.j = S.j := by rw [← hS, ← hT]; rfl
  have hda : T.data = S.data := by rw [← hS, ← hT]; rfl
  have hEn : ∀ l : List UInt8, l.length = 16 → S.E l ≠ [] := fun l hl h => by have := hE l hl; rw [h] at this; cases this
  rw [hS, hT]
  by_cases h4 : M = 4
  · have hc0 := S.c0_len (by rw [sm, sp]; exact hp) (by rw [sm]; exact .inl h4)
    have f1 : S.fin b = ([], 0) := by unfold PS.fin; rw [sm, if_pos h4]
    have f2 : T.fin ((S.cn b).1) = ([], 0) := by unfold PS.fin; rw [tm, if_pos h4]
    have g1 : S.front b = (S.cn b).1 := by unfold PS.front; rw [sm, if_pos h4]
    have g2 : T.front (S.cn b).1 = b := by
      unfold PS.front
      rw [tm, if_pos h4, hcn]
      exact cnt1_twice S.E S.wd hEn b [] S.c0 hc0
    rw [f1, g1, if_pos rfl]
    refine ⟨fun h => absurd rfl h, fun _ => ?_, ?_⟩
    rotate_left
    · have h1 := cnt1_le S.E S.wd b [] S.c0
      have h2 : (S.cn b).1.length ≤ b.length := h1
      simp only [List.append_nil]
      omega
    simp only [List.append_nil]
    rw [f2, g2, if_pos rfl, List.append_nil]
  by_cases h5 : M = 5
  · have hpo : parOk S.mode S.p := by rw [sm, sp]; exact hp
    have hc0 := S.c0_len hpo (by rw [sm]; exact .inr h5)
    have hjl := S.j_len hpo (by rw [sm]; exact h5)
    have htl : (tagL S.E S.data (S.cn b).1 (S.E S.j)).length = 16 := tagL_len _ _ _ _ (hE _ hjl)
    obtain ⟨tg, htg⟩ : ∃ t, tagL S.E S.data (S.cn b).1 (S.E S.j) = t := ⟨_, rfl⟩
    have f1 : S.fin b = (tg, 0) := by unfold PS.fin; rw [sm, if_neg (by omega), if_pos h5, se, if_pos rfl, htg]
    have g1 : S.front b = (S.cn b).1 := by unfold PS.front; rw [sm, if_neg (by omega), if_pos h5, se, if_pos rfl]
    have g2 : T.front ((S.cn b).1 ++ tg) = [] := by unfold PS.front; rw [tm, if_neg (by omega), if_pos h5, te, if_neg (by decide)]
    have hln : ((S.cn b).1 ++ tg).length - 16 = (S.cn b).1.length := by rw [List.length_append, ← htg, htl]; omega
    have f2 : T.fin ((S.cn b).1 ++ tg) = (b, 0) := by
      unfold PS.fin
      rw [tm, if_neg (by omega), if_pos h5, te, if_neg (by decide)]
      unfold PS.open_
      rw [if_neg (by rw [List.length_append, ← htg, htl]; omega), hln, List.take_left', List.drop_left', hTE, hj, hda, if_pos htg, hcn]
      · exact congrArg (·, (0 : Int)) (cnt1_twice S.E S.wd hEn b [] S.c0 hc0)
      · rfl
      · rfl
    rw [f1, g1, if_pos rfl]
    refine ⟨fun h => absurd rfl h, fun _ => ?_, ?_⟩
    rotate_left
    · have h1 := cnt1_le S.E S.wd b [] S.c0
      have h2 : (S.cn b).1.length ≤ b.length := h1
      have h3 : tg.length = 16 := by rw [← htg]; exact htl
      simp only [List.length_append]
      omega
    simp only
    rw [f2, g2, if_pos rfl, List.nil_append]
  have hiv : M ≠ 1 → p.length = 16 := fun h1 => by
    unfold parOk at hp
    rw [if_neg h1, if_neg h4, if_neg h5] at hp
    exact hp
  have sk : S.keep = 0 := by unfold PS.keep; rw [if_neg (by rw [se]; simp)]
  obtain ⟨q, hq⟩ : ∃ q, b.length / 16 = q := ⟨_, rfl⟩
  have snb : S.nb b.length = q := by unfold PS.nb; rw [sk]; exact hq
  have g1 : S.front b = (blkN M true S.E S.D q p b).1 := by unfold PS.front PS.blk; rw [sm, if_neg h4, if_neg h5, snb, se, sp]
  obtain ⟨k1, k2, k3⟩ := blkN_back M S.E S.D hE hDE q p b hiv (by omega)
  by_cases h3 : M = 3
  · obtain ⟨r, hr⟩ : ∃ r, b.drop (16 * q) = r := ⟨_, rfl⟩
    have hrl : r.length < 16 := by rw [← hr, List.length_drop]; omega
    obtain ⟨x, hx⟩ : ∃ x, r ++ List.replicate (16 - r.length) (UInt8.ofNat (16 - r.length)) = x := ⟨_, rfl⟩
    have hxl : x.length = 16 := by rw [← hx, List.length_append, List.length_replicate]; omega
    obtain ⟨j1, j2, j3⟩ := blkF_back M S.E S.D hE hDE (blkN M true S.E S.D q p b).2 x k2 hxl
    obtain ⟨o, ho⟩ : ∃ o, (blkF M true S.E S.D (blkN M true S.E S.D q p b).2 x).1 = o := ⟨_, rfl⟩
    have f1 : S.fin b = (o, 0) := by
      unfold PS.fin endB PS.blk
      rw [sm, if_neg h4, if_neg h5, if_pos h3, se, if_pos rfl, snb, hr, hx, sp, ho]
    rw [f1, g1, if_pos rfl]
    refine ⟨fun h => absurd rfl h, fun _ => ?_, ?_⟩
    rotate_left
    · have h3 : o.length = 16 := by rw [← ho]; exact j1
      simp only [List.length_append]
      omega
    simp only
    obtain ⟨F, hF⟩ : ∃ F, (blkN M true S.E S.D q p b).1 = F := ⟨_, rfl⟩
    rw [hF] at k1 k3 ⊢
    rw [ho] at j1 j3
    have hcl : (F ++ o).length = 16 * q + 16 := by rw [List.length_append, k1, j1]
    have tk : T.keep = 1 := by unfold PS.keep; rw [if_pos ⟨by rw [tm]; exact h3, te⟩]
    have tnb : T.nb (F ++ o).length = q := by unfold PS.nb; rw [tk, hcl]; omega
    have tb : T.blk (F ++ o) = (b.take (16 * q), (blkN M true S.E S.D q p b).2) := by
      unfold PS.blk
      rw [tm, te, tnb, tp, hTE, hTD, blkN_front M false S.E S.D q p F o (by omega)]
      exact k3
    have g2 : T.front (F ++ o) = b.take (16 * q) := by unfold PS.front; rw [tm, if_neg h4, if_neg h5, tb]
    have hdr : (F ++ o).drop (16 * q) = o := List.drop_left' k1
    have f2 : T.fin (F ++ o) = (r, 0) := by
      unfold PS.fin endB
      rw [tm, if_neg h4, if_neg h5, if_pos h3, te, if_neg (by decide), tnb, hdr, if_pos j1, tb, hTE, hTD]
      simp only
      rw [j3]
      simp only
      rw [← hx]
      exact strip_pad r hrl
    rw [f2, g2, if_pos rfl, ← hr, List.take_append_drop]
  · have hb0 : b.length % 16 = 0 := hb (by omega)
    have hdn : b.drop (16 * q) = [] := List.drop_eq_nil_of_le (by omega)
    have f1 : S.fin b = ([], 0) := by
      unfold PS.fin endB
      rw [sm, if_neg h4, if_neg h5, if_neg h3, snb, hdn, if_pos rfl]
    rw [f1, g1, if_pos rfl]
    refine ⟨fun h => absurd rfl h, fun _ => ?_, ?_⟩
    rotate_left
    · simp only [List.append_nil]
      omega
    simp only [List.append_nil]
    obtain ⟨F, hF⟩ : ∃ F, (blkN M true S.E S.D q p b).1 = F := ⟨_, rfl⟩
    rw [hF] at k1 k3 ⊢
    have tk : T.keep = 0 := by unfold PS.keep; rw [if_neg (by rw [tm]; omega)]
    have tnb : T.nb F.length = q := by unfold PS.nb; rw [tk, k1]; omega
    have tb : T.blk F = (b.take (16 * q), (blkN M true S.E S.D q p b).2) := by
      unfold PS.blk
      rw [tm, te, tnb, tp, hTE, hTD]
      exact k3
    have g2 : T.front F = b := by unfold PS.front; rw [tm, if_neg h4, if_neg h5, tb]; exact List.take_of_length_le (by omega)
    have f2 : T.fin F = ([], 0) := by
      unfold PS.fin endB
      rw [tm, if_neg h4, if_neg h5, if_neg h3, tnb, List.drop_eq_nil_of_le (by omega), if_pos rfl]
    rw [f2, g2, if_pos rfl, List.append_nil]
end Go.Proofs.Ytiocmebcbhbcmaa
namespace Go.Proofs.Ytiocmebcbhbcmaa
set_option maxRecDepth 100000
open Go.RowKit

/-- Laid from behind. -/
def dmid (k : Nat) (o l : List UInt8) : List UInt8 := l.take k ++ o.drop k
theorem dmid_all (o l : List UInt8) (n : Nat) (ho : o.length = n) (hl : l.length = n) : dmid n o l = l := by
  unfold dmid
  rw [← hl, List.take_length, List.drop_eq_nil_of_le (by omega), List.append_nil]
theorem dmid_zero (o l : List UInt8) : dmid 0 o l = o := by simp [dmid]
theorem dmid_len (k : Nat) (o l : List UInt8) (n : Nat) (ho : o.length = n) (hl : l.length = n) (hk : k ≤ n) : (dmid k o l).length = n := by
  unfold dmid
  rw [List.length_append, List.length_take, List.length_drop]
  omega
theorem dmid_set (k : Nat) (o l : List UInt8) (x : UInt8) (hx : o[k]? = some x) (hl : k < l.length) : (dmid (k + 1) o l).set k x = dmid k o l := by
  unfold dmid
  have hko : k < o.length := by
    rcases Nat.lt_or_ge k o.length with h | h
    · exact h
    · rw [List.getElem?_eq_none h] at hx; cases hx
  have e1 : l.take (k + 1) = l.take k ++ [l[k]] := by rw [List.take_add_one, List.getElem?_eq_getElem hl]; rfl
  have e2 : o.drop k = x :: o.drop (k + 1) := by
    rw [List.drop_eq_getElem_cons hko]
    have := hx
    rw [List.getElem?_eq_getElem hko] at this
    cases this
    rfl
  have hlk : (l.take k).length = k := by rw [List.length_take]; omega
  rw [e1, e2, List.append_assoc]
  rw [List.set_append_right _ _ (by omega), hlk, Nat.sub_self]
  rfl
theorem bytes64_at (n i : Nat) (h : i < 8) (hn : n < 18446744073709551616) : (bytes64 (UInt64.ofNat n))[i]? = some (UInt8.ofNat (n / 256 ^ (7 - i) % 256)) := by
  have ht : ∀ k : Nat, k ≤ 7 → (UInt64.ofNat n >>> UInt64.ofNat (8 * k)).toUInt8 = UInt8.ofNat (n / 256 ^ k % 256) := fun k hk => by
    apply UInt8.toNat_inj.1
    rw [UInt64.toNat_toUInt8, UInt64.toNat_shiftRight, UInt8.toNat_ofNat', UInt64.toNat_ofNat', UInt64.toNat_ofNat', Nat.shiftRight_eq_div_pow, show n % 2 ^ 64 = n by omega, show 8 * k % 2 ^ 64 % 64 = 8 * k by omega,
      show (2 : Nat) ^ (8 * k) = 256 ^ k by rw [Nat.pow_mul]]
    simp
  have h0 := ht 0 (by omega)
  have h1 := ht 1 (by omega)
  have h2 := ht 2 (by omega)
  have h3 := ht 3 (by omega)
  have h4 := ht 4 (by omega)
  have h5 := ht 5 (by omega)
  have h6 := ht 6 (by omega)
  have h7 := ht 7 (by omega)
  have hz : (UInt64.ofNat n).toUInt8 = UInt8.ofNat (n / 256 ^ 0 % 256) := by
    apply UInt8.toNat_inj.1
    rw [UInt64.toNat_toUInt8, UInt64.toNat_ofNat', UInt8.toNat_ofNat', Nat.mod_eq_of_lt (a := n) (by omega)]
    simp
  have : i = 0 ∨ i = 1 ∨ i = 2 ∨ i = 3 ∨ i = 4 ∨ i = 5 ∨ i = 6 ∨ i = 7 := by omega
  rcases this with rfl | rfl | rfl | rfl | rfl | rfl | rfl | rfl
  · exact congrArg some h7
  · exact congrArg some h6
  · exact congrArg some h5
  · exact congrArg some h4
  · exact congrArg some h3
  · exact congrArg some h2
  · exact congrArg some h1
  · exact congrArg some hz
set_option maxHeartbeats 1000000 in
theorem eight_any (n : Nat) (w : World) (hn : n ≤ 1000000000000) :
    Calls Try.prog 56 #[.int .i64 (n : Int)] w fun e w' => e = .returned (.slice (some ⟨w.heap.size, 0, none⟩) 8 8) ∧ Own w' w.heap.size (.slice (some ⟨w.heap.size, 0, none⟩) 8 8) (bytes64 (UInt64.ofNat n)) ∧ Old w w' := by
  obtain ⟨X, hX⟩ : ∃ X, w.heap.size = X := ⟨_, rfl⟩
  have hmk := Try.prog_make 8 (by omega) w
  obtain ⟨w1, hw1⟩ : ∃ w1, w.alloc (.cells (madeCells #[.int .u8 0] 8) 5) = w1 := ⟨_, rfl⟩
  have hO1 : Own w1 X (.slice (some ⟨X, 0, none⟩) 8 8) (zs 8) := by rw [← hw1, ← hX]; exact Own.made w 8 (by unfold maxLen; omega)
  have hB1 : Old w w1 := by rw [← hw1]; exact (Old.refl _).alloc _
  rw [hw1, hX, show ((8 : Nat) : Int) = 8 from rfl] at hmk
  have HH := Lib.hid (And.intro hO1 hB1)
  have HX := Lib.hid hX
  clear hO1 hB1 hw1
  rw [hX]
  clear hX
  obtain ⟨L, hL⟩ : ∃ L, bytes64 (UInt64.ofNat n) = L := ⟨_, rfl⟩
  have hat : ∀ i, i < 8 → L[i]? = some (UInt8.ofNat (n / 256 ^ (7 - i) % 256)) := fun i hi => by rw [← hL]; exact bytes64_at n i hi (by omega)
  have hLl : L.length = 8 := by rw [← hL]; rfl
  rw [hL]
  have HL := Lib.hid (And.intro hat hLl)
  clear hat hLl hL
  go_enter Try.func56, Try.ntmps56
  go_wp2_with fail
  clear hmk
  go_loopw [0, 4] (fun vn vi wr => ∃ k m : Nat, vn = .int .i64 (m : Int) ∧ vi = .int .i64 ((k : Int) - 1) ∧ k ≤ 8 ∧ m = n / 256 ^ (8 - k) ∧ Own wr X (.slice (some ⟨X, 0, none⟩) 8 8) (dmid k L (zs 8)) ∧ Old w wr) (fun _ vi _ => (intOf vi + 1).toNat)
  case atStart => exact ⟨8, n, rfl, rfl, by omega, by simp, by rw [dmid_all _ _ 8 HL.out.2 (zs_len 8)]; exact HH.out.1, HH.out.2⟩
  case round =>
    obtain ⟨k, m, rfl, rfl, hk, hm, hO, hB⟩ := hrel
    rcases k with _ | i
    · have h0 : ¬ (((0 : Nat) : Int) - 1 ≥ 0) := by omega
      rw [dmid_zero] at hO
      have HX2 := Lib.hid (And.intro hO hB)
      clear hO hB hm
      go_wp2_with fail
      go_ret
      exact ⟨rfl, HX2.out.1, HX2.out.2⟩
    · have e1 : (((i + 1 : Nat) : Int) - 1) = (i : Int) := by omega
      have hi : i < 8 := by omega
      have hi0 : (i : Int) ≥ 0 := by omega
      have hi8 : (i : Int) < 8 := by omega
      have hmn : m ≤ n := by rw [hm]; exact Nat.div_le_self _ _
      obtain ⟨q, hq⟩ : ∃ q, m % 256 = q := ⟨_, rfl⟩
      have hr1 : (m : Int) % 256 = (q : Int) := by omega
      have hr2 : Int.tmod (m : Int) 256 = (q : Int) := by rw [Int.tmod_eq_emod_of_nonneg (by omega)]; exact hr1
      have hcv := fun W : World => conv_i8 q (by omega) W
      obtain ⟨m2, hm2⟩ : ∃ m2, m / 256 = m2 := ⟨_, rfl⟩
      have hd1 : (m : Int) / 256 = (m2 : Int) := by omega
      have hd2 : Int.tdiv (m : Int) 256 = (m2 : Int) := by rw [Int.tdiv_eq_ediv_of_nonneg (by omega)]; exact hd1
      have hwi : IntKind.i64.wrap ((i : Int) - 1) = (i : Int) - 1 := IntWalk.i64_in _ (by omega)
      have hx : L[i]? = some (UInt8.ofNat q) := by
        rw [HL.out.1 i hi, ← hq, hm, show 8 - (i + 1) = 7 - i by omega]
      obtain ⟨z, hz⟩ : ∃ z, (dmid (i + 1) L (zs 8))[i]? = some z := ⟨_, List.getElem?_eq_getElem (by rw [dmid_len _ _ _ 8 HL.out.2 (zs_len 8) (by omega)]; exact hi)⟩
      have y2 := hO.cell i z hz
      have y3 := hO.frozen i
      have h1 := hO.set_ i (UInt8.ofNat q) hi
      rw [dmid_set i L (zs 8) _ hx (by rw [zs_len]; exact hi)] at h1
      have hT : Turn [X] wr (wr.setCell ⟨X, i, none⟩ (B (UInt8.ofNat q))) := (Turn.refl _ _).setCell (p := ⟨X, i, none⟩) (.inl (by simp)) _
      have hB2 : Old w (wr.setCell ⟨X, i, none⟩ (B (UInt8.ofNat q))) := below_turn hB hT (by simp; rw [HX.out]; exact Nat.le_refl _) hB.size
      have hm3 : m2 = n / 256 ^ (8 - i) := by rw [← hm2, hm, Nat.div_div_eq_div_mul, ← Nat.pow_succ, show (8 - (i + 1)).succ = 8 - i by omega]
      have HS := Lib.hid (And.intro h1 (And.intro hB2 hm3))
      rw [e1]
      clear hO hB hT hz hx h1 hB2 hm3 hm hk hq hm2 e1 hi
      go_wp2_with fail
      go_roundw
      case rel => exact ⟨i, m2, rfl, rfl, by omega, HS.out.2.2, HS.out.1, HS.out.2.1⟩
      case measure => simp [intOf]
end Go.Proofs.Ytiocmebcbhbcmaa
namespace Go.Proofs.Ytiocmebcbhbcmaa
set_option maxRecDepth 100000
open Go.RowKit

def bitB (r : Nat) : UInt8 := UInt8.ofNat (2 ^ r)
theorem bit_lit (r : Nat) (h : r < 8) : Value.int .u8 (((2 : Int) ^ r) % 256) = B (bitB r) := by
  have : r = 0 ∨ r = 1 ∨ r = 2 ∨ r = 3 ∨ r = 4 ∨ r = 5 ∨ r = 6 ∨ r = 7 := by omega
  rcases this with rfl | rfl | rfl | rfl | rfl | rfl | rfl | rfl <;> rfl
def nxG : Nat → Nat → List UInt8 → List UInt8
  | 0, _, l => l
  | f + 1, i, l => if isN ((l.getD (15 - i / 8) 0 ^^^ bitB (i % 8)) &&& bitB (i % 8)) 0 = true then nxG f (i + 1) (l.set (15 - i / 8) (l.getD (15 - i / 8) 0 ^^^ bitB (i % 8)))
    else l.set (15 - i / 8) (l.getD (15 - i / 8) 0 ^^^ bitB (i % 8))
def byG : Nat → Nat → UInt8 → UInt8 × Bool
  | 0, _, x => (x, false)
  | f + 1, j, x => if isN ((x ^^^ bitB j) &&& bitB j) 0 = true then byG f (j + 1) (x ^^^ bitB j) else (x ^^^ bitB j, true)
theorem byG_all (n : Nat) (hn : n ≤ 8) (x : UInt8) : byG n 0 x = (nxB n x, !goB n x) := by
  have h : ∀ n : Fin 9, ∀ i : Fin 256, byG n.val 0 (UInt8.ofNat i.val) = (nxB n.val (UInt8.ofNat i.val), !goB n.val (UInt8.ofNat i.val)) := by decide +kernel
  have := h ⟨n, by omega⟩ ⟨x.toNat, x.toNat_lt⟩
  simpa using this
theorem set_getD (l : List UInt8) (k : Nat) : l.set k (l.getD k 0) = l := by
  by_cases h : k < l.length
  · rw [List.getD_eq_getElem?_getD, List.getElem?_eq_getElem h]
    simp
  · rw [List.set_eq_of_length_le (by omega)]
theorem byG_step (f j : Nat) (x : UInt8) : byG (f + 1) j x = if isN ((x ^^^ bitB j) &&& bitB j) 0 = true then byG f (j + 1) (x ^^^ bitB j) else (x ^^^ bitB j, true) := rfl
theorem nxG_succ (f m j : Nat) (l : List UInt8) (hj : j < 8) : nxG (f + 1) (8 * m + j) l = if isN ((l.getD (15 - m) 0 ^^^ bitB j) &&& bitB j) 0 = true then nxG f (8 * m + (j + 1)) (l.set (15 - m) (l.getD (15 - m) 0 ^^^ bitB j))
    else l.set (15 - m) (l.getD (15 - m) 0 ^^^ bitB j) := by
  have e1 : (8 * m + j) / 8 = m := by omega
  have e2 : (8 * m + j) % 8 = j := by omega
  show (if isN ((l.getD (15 - (8 * m + j) / 8) 0 ^^^ bitB ((8 * m + j) % 8)) &&& bitB ((8 * m + j) % 8)) 0 = true then _ else _) = _
  rw [e1, e2]
  rfl
theorem nxG_byte (m f2 : Nat) (hm : m < 16) : ∀ (f1 j : Nat) (l : List UInt8) (y : UInt8) (st : Bool), j + f1 ≤ 8 → l.length = 16 → byG f1 j (l.getD (15 - m) 0) = (y, st) →
    (st = true → nxG (f1 + f2) (8 * m + j) l = l.set (15 - m) y) ∧ (st = false → nxG (f1 + f2) (8 * m + j) l = nxG f2 (8 * m + j + f1) (l.set (15 - m) y))
  | 0, j, l, y, st, _, _, hb => by
    simp only [byG, Prod.mk.injEq] at hb
    obtain ⟨rfl, rfl⟩ := hb
    refine ⟨fun h => (by cases h), fun _ => ?_⟩
    rw [set_getD, Nat.zero_add]
    rfl
  | f1 + 1, j, l, y, st, hj, hl, hb => by
    rw [byG_step] at hb
    rw [show f1 + 1 + f2 = (f1 + f2) + 1 by omega, nxG_succ _ _ _ _ (by omega)]
    by_cases h : isN ((l.getD (15 - m) 0 ^^^ bitB j) &&& bitB j) 0 = true
    · rw [if_pos h] at hb
      rw [if_pos h]
      have eg : (l.set (15 - m) (l.getD (15 - m) 0 ^^^ bitB j)).getD (15 - m) 0 = l.getD (15 - m) 0 ^^^ bitB j := by
        rw [List.getD_eq_getElem?_getD, List.getElem?_set_self (by omega)]
        rfl
      have ih := nxG_byte m f2 hm f1 (j + 1) (l.set (15 - m) (l.getD (15 - m) 0 ^^^ bitB j)) y st (by omega) (by simp [hl]) (by rw [eg]; exact hb)
      rw [List.set_set, show 8 * m + (j + 1) + f1 = 8 * m + j + (f1 + 1) by omega] at ih
      exact ih
    · rw [if_neg h] at hb
      rw [if_neg h]
      simp only [Prod.mk.injEq] at hb
      obtain ⟨rfl, rfl⟩ := hb
      exact ⟨fun _ => rfl, fun h => (by cases h)⟩
theorem nxG_step : ∀ (k m left : Nat) (l : List UInt8), k + m = 16 → l.length = 16 → left ≤ 8 * k → nxG left (8 * m) l = stepF k left l
  | 0, m, left, l, _, _, h => by
    obtain rfl : left = 0 := by omega
    rfl
  | k + 1, m, left, l, hk, hl, h => by
    by_cases h0 : left = 0
    · subst h0; simp [nxG, stepF]
    · obtain ⟨n, hn⟩ : ∃ n, min left 8 = n := ⟨_, rfl⟩
      have hb := nxG_byte m (left - n) (by omega) n 0 l (nxB n (l.getD (15 - m) 0)) (!goB n (l.getD (15 - m) 0)) (by omega) hl (byG_all n (by omega) _)
      rw [show n + (left - n) = left by omega, Nat.add_zero, show 15 - m = k by omega] at hb
      show _ = (if left = 0 then l else if goB (min left 8) (l.getD k 0) = true then stepF k (left - min left 8) (l.set k (nxB (min left 8) (l.getD k 0))) else l.set k (nxB (min left 8) (l.getD k 0)))
      rw [if_neg h0, hn]
      by_cases hg : goB n (l.getD k 0) = true
      · rw [hb.2 (by rw [hg]; rfl), if_pos hg]
        by_cases h8 : 8 ≤ left
        · obtain rfl : n = 8 := by omega
          rw [show 8 * m + 8 = 8 * (m + 1) by omega]
          exact nxG_step k (m + 1) (left - 8) _ (by omega) (by simp [hl]) (by omega)
        · rw [show left - n = 0 by omega]
          cases k <;> simp [nxG, stepF]
      · rw [hb.1 (by rw [Bool.eq_false_iff.2 hg]; rfl), if_neg hg]
theorem nxG_L (wd : Nat) (h : wd ≤ 128) (l : List UInt8) (hl : l.length = 16) : nxG wd 0 l = stepL wd l := nxG_step 16 0 wd l rfl hl h
set_option maxHeartbeats 1000000 in
theorem rnext_any (A : Option Addr) (c wd : Nat) (l : List UInt8) (w : World) (h : Rd w A 16 c l) (hw : wd ≤ 128) :
    Calls Try.prog 61 #[.slice A 16 c, .int .i64 (wd : Int)] w fun e w' => ∃ g cc, e = .returned (.slice (some ⟨g, 0, none⟩) 16 cc) ∧ Own w' w.heap.size (.slice (some ⟨g, 0, none⟩) 16 cc) (stepL wd l) ∧ Old w w' := by
  have hl := h.1.symm
  obtain ⟨TG, hTG⟩ : ∃ T, stepL wd l = T := ⟨_, rfl⟩
  rw [hTG]
  have hst : nxG wd 0 l = TG := by rw [← hTG]; exact nxG_L wd hw l hl
  have HH := Lib.hid (And.intro h (And.intro hl hst))
  clear h hl hst hTG
  go_enter Try.func61, Try.ntmps61
  go_upto_region 2 with (at_builtin; refine wp_app2 (.const (.slice none 0 0)) (.tmp 9) w.heap.size (.slice none 0 0) [] (Own.nil _ _) (Nat.le_refl _) A 16 c l HH.out.1 (by have := HH.out.2.1; simp; omega) rfl rfl rfl rfl ?_; intro A2 n2 c2 w2 hn2 hG; have H2 := Lib.hid hG; clear hG)
  have hn2 : n2 = 16 := by have h1 := H2.out.len; rw [List.nil_append, HH.out.2.1] at h1; exact h1
  subst hn2
  obtain ⟨g, c3, e⟩ := H2.out.own.form (by intro e; injection e with _ e2 _; omega)
  injection e with e1 e2 e3
  subst e1 e3
  clear e2
  have hown : Own w2 w.heap.size (.slice (some ⟨g, 0, none⟩) 16 c2) l := by have := H2.out.own; rwa [List.nil_append] at this
  have hge : w.heap.size ≤ g := hown.addr_ge _ rfl
  have HO := Lib.hid (And.intro hown (And.intro hge H2.out.below))
  clear hown hge
  go_wp2_with fail
  go_loopw [6] (fun vi wr => ∃ (i f : Nat) (r : List UInt8), vi = .int .i64 (i : Int) ∧ i + f = wd ∧ r.length = 16 ∧ nxG f i r = TG ∧ Own wr w.heap.size (.slice (some ⟨g, 0, none⟩) 16 c2) r ∧ Old w wr) (fun vi _ => wd - (intOf vi).toNat)
  case atStart => exact ⟨0, wd, l, rfl, by omega, HH.out.2.1, HH.out.2.2, HO.out.1, HO.out.2.2⟩
  case round =>
    obtain ⟨i, f, r, rfl, hif, hr, hg, hO, hB⟩ := hrel
    by_cases hlt : i < wd
    · have hlti : (i : Int) < wd := by omega
      have hltd : decide ((i : Int) < (wd : Int)) = true := decide_eq_true hlti
      obtain ⟨f', rfl⟩ : ∃ f', f = f' + 1 := ⟨f - 1, by omega⟩
      obtain ⟨q, hq⟩ : ∃ q, i / 8 = q := ⟨_, rfl⟩
      have hq1 : (i : Int) / 8 = (q : Int) := by omega
      have hq2 : Int.tdiv (i : Int) 8 = (q : Int) := by rw [Int.tdiv_eq_ediv_of_nonneg (by omega)]; exact hq1
      obtain ⟨k, hk⟩ : ∃ k, 15 - q = k := ⟨_, rfl⟩
      have hq15 : q ≤ 15 := by omega
      have hk1 : IntKind.i64.wrap (15 - (q : Int)) = (k : Int) := by rw [IntWalk.i64_in _ (by omega)]; omega
      have hk16 : (k : Int) < 16 := by omega
      obtain ⟨j, hj⟩ : ∃ j, i % 8 = j := ⟨_, rfl⟩
      have hj1 : (i : Int) % 8 = (j : Int) := by omega
      have hj2 : Int.tmod (i : Int) 8 = (j : Int) := by rw [Int.tmod_eq_emod_of_nonneg (by omega)]; exact hj1
      have hj8 : j < 8 := by omega
      have hbit := bit_lit j hj8
      have hwi : IntKind.i64.wrap ((i : Int) + 1) = ((i + 1 : Nat) : Int) := by rw [IntWalk.i64_in _ (by omega)]; omega
      obtain ⟨x, hx⟩ : ∃ x, r[k]? = some x := ⟨_, List.getElem?_eq_getElem (by omega)⟩
      have hxd : r.getD k 0 = x := getD_some hx
      simp only [nxG] at hg
      rw [hq, hk, hj, hxd] at hg
      have y0 := hO.cell k x hx
      have f0 := hO.frozen k
      obtain ⟨y, hy⟩ : ∃ y, x ^^^ bitB j = y := ⟨_, rfl⟩
      rw [hy] at hg
      have h1 := hO.set_ k y (by omega)
      have hT : Turn [g] wr (wr.setCell ⟨g, k, none⟩ (B y)) := (Turn.refl _ _).setCell (p := ⟨g, k, none⟩) (.inl (by simp)) _
      have hB2 : Old w (wr.setCell ⟨g, k, none⟩ (B y)) := below_turn hB hT (by simp; exact HO.out.2.1) hB.size
      have y1 := h1.cell k y (by rw [List.getElem?_set_self (by omega)])
      have hrl : (r.set k y).length = 16 := by simp [hr]
      cases hb : isN (y &&& bitB j) 0 with
      | true =>
        rw [if_pos hb] at hg
        have HS := Lib.hid (And.intro h1 (And.intro hB2 (And.intro hg (And.intro hrl hif))))
        clear hO hB hT h1 hB2 hg hrl hif hr hx hxd hq hk hj hq15 hj8
        go_wp2_with fail
        go_roundw
        case rel => exact ⟨i + 1, f', r.set k y, by first | rfl | (congr 1), by have := HS.out.2.2.2.2; omega, HS.out.2.2.2.1, HS.out.2.2.1, HS.out.1, HS.out.2.1⟩
        case measure => simp [intOf]; omega
      | false =>
        rw [if_neg (by rw [hb]; decide)] at hg
        have HS := Lib.hid (And.intro h1 (And.intro hB2 hg))
        clear hO hB hT h1 hB2 hg hrl hif hr hx hxd hq hk hj hq15 hj8
        go_wp2_with fail
        go_ret
        exact ⟨g, c2, rfl, by rw [← HS.out.2.2]; exact HS.out.1, HS.out.2.1⟩
    · obtain rfl : f = 0 := by omega
      have hlti : ¬ (i : Int) < wd := by omega
      have hltd : decide ((i : Int) < (wd : Int)) = false := decide_eq_false hlti
      have hg' : r = TG := hg
      subst hg'
      have HX := Lib.hid (And.intro hO hB)
      clear hO hB hr hif hg
      go_wp2_with fail
      go_ret
      exact ⟨g, c2, rfl, HX.out.1, HX.out.2⟩
end Go.Proofs.Ytiocmebcbhbcmaa
