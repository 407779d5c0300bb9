/-
  Modes: what the document's answer gives at once is what the program gives. Plain.
  Modes, the document's answer: All of a GCM text that is sealed.
  Modes, the document's answer: All in CTR.
-/
import Derived.Test.YtiocmebcbhbcmaaMr18
import Derived.Test.YtiocmebcbhbcmaaZzMr14
namespace Go.Proofs.Ytiocmebcbhbcmaa
set_option maxRecDepth 100000
open Go.RowKit

theorem decF_len (ks : List UInt8) (R : Nat) (hk : ks.length = 16 * R) : ∀ (i : Nat) (s : List UInt8), i < R → s.length = 16 → (decF ks R i s).length = 16
  | 0, s, hi, hs => xorL_len _ _ 16 hs (key_len ks R 0 hk hi)
  | i + 1, s, hi, _ => by
    show (decF ks R i (decN (decM R (i + 1) (xorL s (key ks (i + 1)))) 16)).length = 16
    exact decF_len ks R hk i _ (by omega) (decN_len _ _)
theorem dec_ne (ks : List UInt8) (R : Nat) (l : List UInt8) (hl : l.length = 16) (hk : ks.length = 16 * R) (hR : 0 < R) : (decL ks R l).length = 16 := decF_len ks R hk (R - 1) l (by omega) hl
theorem blkF_23 (enc : Bool) (E D : List UInt8 → List UInt8) (iv b : List UInt8) : blkF 3 enc E D iv b = blkF 2 enc E D iv b := by
  unfold blkF
  rw [if_neg (show ¬ (3 : Nat) = 1 by decide), if_neg (show ¬ (2 : Nat) = 1 by decide)]
theorem blkN_23 (enc : Bool) (E D : List UInt8 → List UInt8) : ∀ (q : Nat) (iv l : List UInt8), blkN 3 enc E D q iv l = blkN 2 enc E D q iv l
  | 0, _, _ => rfl
  | q + 1, iv, l => by
    simp only [blkN]
    rw [blkF_23, blkN_23 enc E D q]
theorem blkF_lenD (E D : List UInt8 → List UInt8) (hD : ∀ l, l.length = 16 → (D l).length = 16) (iv b : List UInt8) (hi : iv.length = 16) (hb : b.length = 16) : (blkF 2 false E D iv b).1.length = 16 ∧ (blkF 2 false E D iv b).2.length = 16 := by
  unfold blkF
  rw [if_neg (show ¬ (2 : Nat) = 1 by decide), if_neg (show ¬ false = true by decide)]
  exact ⟨xorL_len _ _ 16 (hD b hb) hi, hb⟩
theorem blkN_lenD (E D : List UInt8 → List UInt8) (hD : ∀ l, l.length = 16 → (D l).length = 16) : ∀ (q : Nat) (iv l : List UInt8), iv.length = 16 → 16 * q ≤ l.length →
    (blkN 2 false E D q iv l).1.length = 16 * q ∧ (blkN 2 false E D q iv l).2.length = 16
  | 0, iv, l, hi, _ => ⟨rfl, hi⟩
  | q + 1, iv, l, hi, hl => by
    have hb : (l.take 16).length = 16 := by rw [List.length_take]; omega
    obtain ⟨h1, h2⟩ := blkF_lenD E D hD iv (l.take 16) hi hb
    obtain ⟨k1, k2⟩ := blkN_lenD E D hD q (blkF 2 false E D iv (l.take 16)).2 (l.drop 16) h2 (by rw [List.length_drop]; omega)
    simp only [blkN]
    exact ⟨by rw [List.length_append, h1, k1]; omega, k2⟩
/-- What is left of what was decrypted of n bytes. -/
def cutP (n : Nat) (x : List UInt8) : List UInt8 × Int := if n = 0 ∨ n % 16 ≠ 0 then (x.take ((n - 1) / 16 * 16), 65) else unpadF x
/-- The document's answer, plainly. -/
def refM (mode : Nat) (enc : Bool) (E D : List UInt8 → List UInt8) (p b : List UInt8) : List UInt8 × Int :=
  if mode = 1 ∨ mode = 2 then ((blkN mode enc E D (b.length / 16) p b).1, shortV enc b.length)
  else if mode = 3 then (if enc then ((blkN 2 true E D ((b.length + (16 - b.length % 16)) / 16) p (b ++ List.replicate (16 - b.length % 16) (UInt8.ofNat (16 - b.length % 16)))).1, 0) else cutP b.length (blkN 2 false E D (b.length / 16) p b).1)
  else if mode = 4 then ((cnt1 E (p.getD 0 0).toNat b [] (p.drop 1)).1, 0)
  else if enc then (gcmO E p b ++ gcmT E p (gcmO E p b), 0) else openF E p b
/-- The same as far as it is told. -/
def SameR (a r : List UInt8 × Int) : Prop := a.2 = r.2 ∧ (r.2 = 0 → a.1 = r.1) ∧ (r.2 ≠ 0 → a.1 = [])
theorem allF_val (mode : Nat) (enc : Bool) (k p b : List UInt8) (hk : keyOk k) (hp : parOk mode p) (h1 : 1 ≤ mode) (h5 : mode ≤ 5) :
    allF (mode : Int) enc k p b = if ((PSof mode enc k p).fin b).2 = 0 then ((PSof mode enc k p).front b ++ ((PSof mode enc k p).fin b).1, 0) else ([], ((PSof mode enc k p).fin b).2) := by
  unfold allF
  rw [if_neg (by omega), if_neg (fun h => h hk), Int.toNat_natCast, if_neg (fun h => h hp)]
theorem SameR.of {mode : Nat} {enc : Bool} {k p b : List UInt8} (hk : keyOk k) (hp : parOk mode p) (h1 : 1 ≤ mode) (h5 : mode ≤ 5) {r : List UInt8 × Int} (he : ((PSof mode enc k p).fin b).2 = r.2) (hf : r.2 = 0 → (PSof mode enc k p).front b ++ ((PSof mode enc k p).fin b).1 = r.1) : SameR (allF (mode : Int) enc k p b) r := by
  rw [allF_val mode enc k p b hk hp h1 h5, he]
  by_cases h : r.2 = 0
  · rw [if_pos h]
    exact ⟨h.symm, hf, fun h' => absurd h h'⟩
  · rw [if_neg h]
    exact ⟨rfl, fun h' => absurd h' h, fun _ => rfl⟩
theorem PS.nb_of (s : PS) (h : ¬ (s.mode = 3 ∧ s.enc = false)) (n : Nat) : s.nb n = n / 16 := by unfold PS.nb PS.keep; rw [if_neg h]; rfl
theorem PS.front_blk (s : PS) (h4 : ¬ s.mode = 4) (h5 : ¬ s.mode = 5) (b : List UInt8) : s.front b = (blkN s.mode s.enc s.E s.D (s.nb b.length) s.p b).1 := by
  unfold PS.front PS.blk; rw [if_neg h4, if_neg h5]
theorem PS.fin_blk (s : PS) (h4 : ¬ s.mode = 4) (h5 : ¬ s.mode = 5) (b : List UInt8) : s.fin b = endB s.mode s.enc s.E s.D (blkN s.mode s.enc s.E s.D (s.nb b.length) s.p b).2 (b.drop (16 * s.nb b.length)) := by
  unfold PS.fin PS.blk; rw [if_neg h4, if_neg h5]
theorem same_12 (mode : Nat) (enc : Bool) (k p b : List UInt8) (hk : keyOk k) (hp : parOk mode p) (h12 : mode = 1 ∨ mode = 2) : SameR (allF (mode : Int) enc k p b) (refM mode enc (encL (rks k) ((rks k).length / 16)) (decL (rks k) ((rks k).length / 16)) p b) := by
  have h3 : ¬ mode = 3 := by omega
  have h4 : ¬ mode = 4 := by omega
  have h5 : ¬ mode = 5 := by omega
  have hnb := (PSof mode enc k p).nb_of (fun h => h3 h.1) b.length
  have hfr := (PSof mode enc k p).front_blk h4 h5 b
  have hfi := (PSof mode enc k p).fin_blk h4 h5 b
  rw [hnb] at hfr hfi
  have hr : refM mode enc (encL (rks k) ((rks k).length / 16)) (decL (rks k) ((rks k).length / 16)) p b = (((PSof mode enc k p).front b), shortV enc b.length) := by
    unfold refM; rw [if_pos h12, hfr]; rfl
  have hw : (PSof mode enc k p).fin b = ([], shortV enc b.length) := by
    rw [hfi]
    unfold endB shortV
    rw [if_neg (show ¬ (PSof mode enc k p).mode = 3 from h3)]
    by_cases h : b.length / 16 * 16 = b.length
    · rw [if_pos h, if_pos (List.drop_eq_nil_of_le (by omega))]
    · rw [if_neg h, if_neg (fun h' => by have := congrArg List.length h'; rw [List.length_drop] at this; simp only [List.length_nil] at this; omega)]
      show (if enc = true then _ else _) = _
      cases enc <;> rfl
  rw [hr]
  refine SameR.of hk hp (by omega) (by omega) ?_ (fun _ => ?_)
  · rw [hw]
  · rw [hw, List.append_nil]
theorem same_4 (enc : Bool) (k p b : List UInt8) (hk : keyOk k) (hp : parOk 4 p) : SameR (allF 4 enc k p b) (refM 4 enc (encL (rks k) ((rks k).length / 16)) (decL (rks k) ((rks k).length / 16)) p b) := by
  refine SameR.of (mode := 4) hk hp (by omega) (by omega) ?_ (fun _ => ?_)
  · rfl
  · show (PSof 4 enc k p).front b ++ [] = _
    rw [List.append_nil]
    rfl
theorem same_5 (enc : Bool) (k p b : List UInt8) (hk : keyOk k) (hp : parOk 5 p) : SameR (allF 5 enc k p b) (refM 5 enc (encL (rks k) ((rks k).length / 16)) (decL (rks k) ((rks k).length / 16)) p b) := by
  have hg : gcmOk p := hp
  cases enc
  · have h := allF_open k p b hk hg
    have hr : refM 5 false (encL (rks k) ((rks k).length / 16)) (decL (rks k) ((rks k).length / 16)) p b = openF (encL (rks k) ((rks k).length / 16)) p b := rfl
    rw [hr, h]
    refine ⟨rfl, fun _ => rfl, ?_⟩
    unfold openF
    split
    · intro _; rfl
    · split
      · intro h; exact absurd rfl h
      · intro _; rfl
  · refine SameR.of (mode := 5) hk hp (by omega) (by omega) ?_ (fun _ => ?_)
    · rfl
    · rfl
theorem same_3e (k p b : List UInt8) (hk : keyOk k) (hp : parOk 3 p) : SameR (allF 3 true k p b) (refM 3 true (encL (rks k) ((rks k).length / 16)) (decL (rks k) ((rks k).length / 16)) p b) := by
  have hnb := (PSof 3 true k p).nb_of (fun h => by have : true = false := h.2; cases this) b.length
  have hfr := (PSof 3 true k p).front_blk (by show ¬ (3 : Nat) = 4; decide) (by show ¬ (3 : Nat) = 5; decide) b
  have hfi := (PSof 3 true k p).fin_blk (by show ¬ (3 : Nat) = 4; decide) (by show ¬ (3 : Nat) = 5; decide) b
  rw [hnb] at hfr hfi
  obtain ⟨E, hE⟩ : ∃ E, encL (rks k) ((rks k).length / 16) = E := ⟨_, rfl⟩
  obtain ⟨D, hD⟩ : ∃ D, decL (rks k) ((rks k).length / 16) = D := ⟨_, rfl⟩
  have e1 : (PSof 3 true k p).E = E := hE
  have e2 : (PSof 3 true k p).D = D := hD
  rw [e1, e2] at hfr hfi
  rw [hE, hD]
  have hfr2 : (PSof 3 true k p).front b = (blkN 2 true E D (b.length / 16) p b).1 := by rw [hfr]; show (blkN 3 true E D (b.length / 16) p b).1 = _; rw [blkN_23]
  obtain ⟨q, hq⟩ : ∃ q, b.length / 16 = q := ⟨_, rfl⟩
  obtain ⟨wt, hwt⟩ : ∃ wt, b.drop (16 * q) = wt := ⟨_, rfl⟩
  have hwl : wt.length = b.length % 16 := by rw [← hwt, List.length_drop]; omega
  have hfi2 : (PSof 3 true k p).fin b = ((blkF 2 true E D (blkN 2 true E D q p b).2 (wt ++ List.replicate (16 - b.length % 16) (UInt8.ofNat (16 - b.length % 16)))).1, 0) := by
    rw [hfi, hq, hwt]
    unfold endB
    rw [if_pos (show (PSof 3 true k p).mode = 3 from rfl), if_pos (show (PSof 3 true k p).enc = true from rfl), hwl]
    show ((blkF 3 true E D (blkN 3 true E D q p b).2 _).1, (0 : Int)) = _
    rw [blkF_23, blkN_23]
  rw [hq] at hfr2
  refine SameR.of (mode := 3) hk hp (by omega) (by omega) ?_ (fun _ => ?_)
  · rw [hfi2]; rfl
  · rw [hfi2, hfr2]
    show _ = (blkN 2 true E D ((b.length + (16 - b.length % 16)) / 16) p (b ++ List.replicate (16 - b.length % 16) (UInt8.ofNat (16 - b.length % 16)))).1
    obtain ⟨pd, hpd⟩ : ∃ r, List.replicate (16 - b.length % 16) (UInt8.ofNat (16 - b.length % 16)) = r := ⟨_, rfl⟩
    have hpl : pd.length = 16 - b.length % 16 := by rw [← hpd, List.length_replicate]
    rw [hpd, show (b.length + (16 - b.length % 16)) / 16 = q + 1 by omega, blkN_add, blkN_front _ _ _ _ q p b pd (by omega), List.drop_append_of_le_length (by omega), hwt]
    simp only [blkN, List.append_nil]
    rw [List.take_of_length_le (by rw [List.length_append, hwl, hpl]; omega)]
theorem same_3d (k p b : List UInt8) (hk : keyOk k) (hp : parOk 3 p) : SameR (allF 3 false k p b) (refM 3 false (encL (rks k) ((rks k).length / 16)) (decL (rks k) ((rks k).length / 16)) p b) := by
  have hnb : (PSof 3 false k p).nb b.length = (b.length - 1) / 16 := rfl
  have hfr := (PSof 3 false k p).front_blk (by show ¬ (3 : Nat) = 4; decide) (by show ¬ (3 : Nat) = 5; decide) b
  have hfi := (PSof 3 false k p).fin_blk (by show ¬ (3 : Nat) = 4; decide) (by show ¬ (3 : Nat) = 5; decide) b
  have hpl : p.length = 16 := hp
  rw [hnb] at hfr hfi
  have hDl : ∀ l, l.length = 16 → (decL (rks k) ((rks k).length / 16) l).length = 16 := fun l hl => by
    have h1 := rks_len k hk
    have h2 : (rks k).length / 16 = k.length / 4 + 7 := by rw [h1]; omega
    rw [h2]
    exact dec_ne _ _ l hl h1 (by omega)
  obtain ⟨E, hE⟩ : ∃ E, encL (rks k) ((rks k).length / 16) = E := ⟨_, rfl⟩
  obtain ⟨D, hD⟩ : ∃ D, decL (rks k) ((rks k).length / 16) = D := ⟨_, rfl⟩
  have e1 : (PSof 3 false k p).E = E := hE
  have e2 : (PSof 3 false k p).D = D := hD
  rw [e1, e2] at hfr hfi
  rw [hE, hD]
  rw [hD] at hDl
  obtain ⟨q, hq⟩ : ∃ q, (b.length - 1) / 16 = q := ⟨_, rfl⟩
  rw [hq] at hfr hfi
  have hfr2 : (PSof 3 false k p).front b = (blkN 2 false E D q p b).1 := by rw [hfr]; show (blkN 3 false E D q p b).1 = _; rw [blkN_23]
  obtain ⟨wt, hwt⟩ : ∃ wt, b.drop (16 * q) = wt := ⟨_, rfl⟩
  have hwl : wt.length = b.length - 16 * q := by rw [← hwt, List.length_drop]
  rw [hwt] at hfi
  have hr : refM 3 false E D p b = cutP b.length (blkN 2 false E D (b.length / 16) p b).1 := rfl
  rw [hr]
  unfold cutP
  by_cases hs : b.length = 0 ∨ b.length % 16 ≠ 0
  · rw [if_pos hs]
    refine SameR.of (mode := 3) hk hp (by omega) (by omega) ?_ (fun h => absurd h (by show ¬ (65 : Int) = 0; decide))
    rw [hfi]
    unfold endB
    rw [if_pos (show (PSof 3 false k p).mode = 3 from rfl), if_neg (show ¬ (PSof 3 false k p).enc = true from (by show ¬ false = true; decide)), if_neg (by omega)]
  · rw [if_neg hs]
    obtain ⟨lv, hlv⟩ : ∃ lv, (blkN 2 false E D q p b).2 = lv := ⟨_, rfl⟩
    have hlvl : lv.length = 16 := by rw [← hlv]; exact (blkN_lenD E D hDl q p b hpl (by omega)).2
    have hfl := (blkN_lenD E D hDl q p b hpl (by omega)).1
    have hw16 : wt.length = 16 := by omega
    obtain ⟨o, ho⟩ : ∃ o, (blkF 2 false E D lv wt).1 = o := ⟨_, rfl⟩
    have hol : o.length = 16 := by rw [← ho]; exact (blkF_lenD E D hDl lv wt hlvl hw16).1
    have hx : (blkN 2 false E D (b.length / 16) p b).1 = (blkN 2 false E D q p b).1 ++ o := by
      rw [show b.length / 16 = q + 1 by omega, blkN_add, hlv, hwt]
      simp only [blkN, List.append_nil]
      rw [List.take_of_length_le (by omega), ho]
    have hfi2 : (PSof 3 false k p).fin b = stripF o := by
      rw [hfi]
      unfold endB
      rw [if_pos (show (PSof 3 false k p).mode = 3 from rfl), if_neg (show ¬ (PSof 3 false k p).enc = true from (by show ¬ false = true; decide)), if_pos hw16]
      show stripF (blkF 3 false E D (blkN 3 false E D q p b).2 wt).1 = _
      rw [blkF_23, blkN_23, hlv, ho]
    rw [hx]
    obtain ⟨fr, hfr3⟩ : ∃ fr, (blkN 2 false E D q p b).1 = fr := ⟨_, rfl⟩
    rw [hfr3] at hfr2 ⊢
    have hu : unpadF (fr ++ o) = if (stripF o).2 = 0 then (fr ++ (stripF o).1, 0) else (fr, 64) := by
      unfold unpadF
      rw [show (fr ++ o).length - 16 = fr.length by rw [List.length_append]; omega, List.drop_left, List.take_left]
    have hs2 : (stripF o).2 = 0 ∨ (stripF o).2 = 64 := by unfold stripF; split <;> simp
    rw [hu]
    refine SameR.of (mode := 3) hk hp (by omega) (by omega) ?_ (fun h => ?_)
    · rw [hfi2]
      rcases hs2 with h | h
      · rw [if_pos h]; exact h
      · rw [if_neg (by omega)]; exact h
    · rw [hfi2, hfr2]
      rcases hs2 with h2 | h2
      · rw [if_pos h2]
      · rw [if_neg (by omega)] at h; exact absurd h (by show ¬ (64 : Int) = 0; decide)
theorem refM_same (mode : Nat) (enc : Bool) (k p b : List UInt8) (hk : keyOk k) (hp : parOk mode p) (h1 : 1 ≤ mode) (h5 : mode ≤ 5) : SameR (allF (mode : Int) enc k p b) (refM mode enc (encL (rks k) ((rks k).length / 16)) (decL (rks k) ((rks k).length / 16)) p b) := by
  have hmode : mode = 1 ∨ mode = 2 ∨ mode = 3 ∨ mode = 4 ∨ mode = 5 := by omega
  rcases hmode with rfl | rfl | rfl | rfl | rfl
  · exact same_12 1 enc k p b hk hp (.inl rfl)
  · exact same_12 2 enc k p b hk hp (.inr rfl)
  · cases enc
    · exact same_3d k p b hk hp
    · exact same_3e k p b hk hp
  · exact same_4 enc k p b hk hp
  · exact same_5 enc k p b hk hp
end Go.Proofs.Ytiocmebcbhbcmaa
namespace Go.Proofs.Ytiocmebcbhbcmaa
set_option maxRecDepth 100000
open Go.RowKit

set_option maxHeartbeats 4000000 in
theorem ralln_seal (A P C : Option Addr) (mk ck mp cp n cb : Nat) (k p b : List UInt8) (w : World) (hk : Rd w A mk ck k) (hp : Rd w P mp cp p) (hb : Rd w C n cb b) (hko : keyOk k) (hpo : gcmOk p) (hmp : mp ≤ 40000) (hn : n ≤ 40000) :
    Calls Try.prog 15 #[.int .i64 5, .bool true, .slice A mk ck, .slice P mp cp, .slice C n cb] w (RvNew w (gcmO (encL (rks k) ((rks k).length / 16)) p b ++ gcmT (encL (rks k) ((rks k).length / 16)) p (gcmO (encL (rks k) ((rks k).length / 16)) p b), 0)) := by
  have hcall := rnew_any A mk ck k w hk hko
  obtain ⟨TG, hTG⟩ : ∃ T, gcmO (encL (rks k) ((rks k).length / 16)) p b ++ gcmT (encL (rks k) ((rks k).length / 16)) p (gcmO (encL (rks k) ((rks k).length / 16)) p b) = T := ⟨_, rfl⟩
  rw [hTG]
  have hcb := le_R16 hb
  obtain ⟨q, hq⟩ : ∃ q, n / 16 = q := ⟨_, rfl⟩
  have hq1 : Int.tdiv (n : Int) 16 = (q : Int) := by rw [Int.tdiv_eq_ediv_of_nonneg (by omega)]; omega
  have hq2 : (n : Int) / 16 = (q : Int) := by omega
  obtain ⟨n5, hn5⟩ : ∃ n5, q * 16 = n5 := ⟨_, rfl⟩
  have hn5i : (q : Int) * 16 = (n5 : Int) := by omega
  have hn5w : IntKind.i64.wrap (n5 : Int) = (n5 : Int) := IntWalk.i64_in _ (by omega)
  have hsl := slice_to C n cb n5 hb.spot (by omega)
  have HH := Lib.hid (And.intro hcall (And.intro hp (And.intro hb (And.intro hpo hTG))))
  have HQ := Lib.hid (And.intro hq hn5)
  clear hcall hp hb hk hpo hTG hq hn5
  by_cases h16 : n5 = n
  · have he : ((n5 : Int) == (n : Int)) = true := by simp; omega
    clear h16
    go_enter Try.func15, Try.ntmps15
    go_wp2_with fail
    refine HH.out.1.mono ?_
    rintro e w1 ⟨c, kb, R, cap, g1, g2, rfl, hC, hB⟩
    have hR : (rks k).length / 16 = R := by have : (rks k).length = 16 * R := hC.2.2.1; omega
    have hTG := HH.out.2.2.2.2
    rw [hR] at hTG
    have hEl : ∀ l : List UInt8, l.length = 16 → (encL (rks k) R l).length = 16 := fun l hl => enc_ne _ R l hl hC.2.2.1
    have hen := REn.of hC
    obtain ⟨E, hE⟩ : ∃ E, encL (rks k) R = E := ⟨_, rfl⟩
    obtain ⟨D, hD⟩ : ∃ D, decL (rks k) R = D := ⟨_, rfl⟩
    rw [hE, hD] at hen
    rw [hE] at hEl hTG
    have H1 := Lib.hid (And.intro hen (And.intro hEl (And.intro hB hTG)))
    clear hC hen hEl hE hD hR hB hko hTG
    go_upto_region 34 with (go_at_call 37; refine (rgcm_any c true E D P C mp cp n cb p b w1 H1.out.1 H1.out.2.1 (HH.out.2.1.below H1.out.2.2.1) HH.out.2.2.2.1 hmp (HH.out.2.2.1.below H1.out.2.2.1) hn).mono ?_; rintro e w4 ⟨A4, n4, c4, A5, c5, rfl, hO4, hR5, _, hB4⟩; have H4 := Lib.hid (And.intro hO4 (And.intro hR5 hB4)); clear hO4 hR5 hB4)
    have hR5 := H4.out.2.1
    unfold gcmX at hR5
    rw [if_pos rfl] at hR5
    have hn4 : n4 ≤ 40000 := by
      have h1 := H4.out.1.len
      have h2 := cnt1_le E 32 b [] (stepL 32 (gcmJ E p))
      have h3 := HH.out.2.2.1.1
      unfold gcmO at h1
      omega
    have HR := Lib.hid hR5
    clear hR5
    go_wp2_with (at_builtin; refine wp_app2 (.tmp 118) (.tmp 119) w1.heap.size (.slice A4 n4 c4) _ H4.out.1 H4.out.2.2.size A5 16 c5 _ HR.out (by have h1 := H4.out.1.len; have h2 := HR.out.1; omega) rfl rfl rfl rfl ?_; intro A9 n9 c9 w9 hn9 hG9; have H9 := Lib.hid hG9; clear hG9)
    refine bodyPost_ret (results_tmp2 rfl _ _ _) rfl ?_
    rw [← H1.out.2.2.2]
    exact ⟨_, _, _, rfl, H9.out.own.rd, fun ad e => (by have h1 := H9.out.own.addr_ge ad e; have h2 := H1.out.2.2.1.size; omega), Old.trans H1.out.2.2.1 (Below.trans H4.out.2.2 H9.out.below)⟩
  · have he : ((n5 : Int) == (n : Int)) = false := by simp; omega
    clear h16
    go_enter Try.func15, Try.ntmps15
    go_wp2_with fail
    refine HH.out.1.mono ?_
    rintro e w1 ⟨c, kb, R, cap, g1, g2, rfl, hC, hB⟩
    have hR : (rks k).length / 16 = R := by have : (rks k).length = 16 * R := hC.2.2.1; omega
    have hTG := HH.out.2.2.2.2
    rw [hR] at hTG
    have hEl : ∀ l : List UInt8, l.length = 16 → (encL (rks k) R l).length = 16 := fun l hl => enc_ne _ R l hl hC.2.2.1
    have hen := REn.of hC
    obtain ⟨E, hE⟩ : ∃ E, encL (rks k) R = E := ⟨_, rfl⟩
    obtain ⟨D, hD⟩ : ∃ D, decL (rks k) R = D := ⟨_, rfl⟩
    rw [hE, hD] at hen
    rw [hE] at hEl hTG
    have H1 := Lib.hid (And.intro hen (And.intro hEl (And.intro hB hTG)))
    clear hC hen hEl hE hD hR hB hko hTG
    go_upto_region 34 with (go_at_call 37; refine (rgcm_any c true E D P C mp cp n cb p b w1 H1.out.1 H1.out.2.1 (HH.out.2.1.below H1.out.2.2.1) HH.out.2.2.2.1 hmp (HH.out.2.2.1.below H1.out.2.2.1) hn).mono ?_; rintro e w4 ⟨A4, n4, c4, A5, c5, rfl, hO4, hR5, _, hB4⟩; have H4 := Lib.hid (And.intro hO4 (And.intro hR5 hB4)); clear hO4 hR5 hB4)
    have hR5 := H4.out.2.1
    unfold gcmX at hR5
    rw [if_pos rfl] at hR5
    have hn4 : n4 ≤ 40000 := by
      have h1 := H4.out.1.len
      have h2 := cnt1_le E 32 b [] (stepL 32 (gcmJ E p))
      have h3 := HH.out.2.2.1.1
      unfold gcmO at h1
      omega
    have HR := Lib.hid hR5
    clear hR5
    go_wp2_with (at_builtin; refine wp_app2 (.tmp 118) (.tmp 119) w1.heap.size (.slice A4 n4 c4) _ H4.out.1 H4.out.2.2.size A5 16 c5 _ HR.out (by have h1 := H4.out.1.len; have h2 := HR.out.1; omega) rfl rfl rfl rfl ?_; intro A9 n9 c9 w9 hn9 hG9; have H9 := Lib.hid hG9; clear hG9)
    refine bodyPost_ret (results_tmp2 rfl _ _ _) rfl ?_
    rw [← H1.out.2.2.2]
    exact ⟨_, _, _, rfl, H9.out.own.rd, fun ad e => (by have h1 := H9.out.own.addr_ge ad e; have h2 := H1.out.2.2.1.size; omega), Old.trans H1.out.2.2.1 (Below.trans H4.out.2.2 H9.out.below)⟩
end Go.Proofs.Ytiocmebcbhbcmaa
namespace Go.Proofs.Ytiocmebcbhbcmaa
set_option maxRecDepth 100000
open Go.RowKit

set_option maxHeartbeats 4000000 in
theorem ralln_ctr (enc : Bool) (A P C : Option Addr) (mk ck cp n cb : Nat) (k p b : List UInt8) (w : World) (hk : Rd w A mk ck k) (hp : Rd w P 17 cp p) (hb : Rd w C n cb b) (hko : keyOk k) (hz1 : (p.getD 0 0).toNat ≤ 128) (hn : n ≤ 40000) :
    Calls Try.prog 15 #[.int .i64 4, .bool enc, .slice A mk ck, .slice P 17 cp, .slice C n cb] w (RvNew w ((cnt1 (encL (rks k) ((rks k).length / 16)) (p.getD 0 0).toNat b [] (p.drop 1)).1, 0)) := by
  have hcall := rnew_any A mk ck k w hk hko
  obtain ⟨TG, hTG⟩ : ∃ T, (cnt1 (encL (rks k) ((rks k).length / 16)) (p.getD 0 0).toNat b [] (p.drop 1)).1 = T := ⟨_, rfl⟩
  rw [hTG]
  obtain ⟨bp, op, z, hPe, hz, hcell⟩ := par0 hp (by decide)
  subst hPe
  obtain ⟨nv, hnv⟩ : ∃ nv, z.toNat = nv := ⟨_, rfl⟩
  rw [hz, hnv] at hTG hz1
  have hcv := conv_Bi z
  rw [hnv] at hcv
  have hcp := hp.2.1
  have hsI := slice_from (some ⟨bp, op, none⟩) 17 cp 1 (by omega)
  rw [if_neg (by omega), show ((1 : Nat) : Int) = 1 from rfl] at hsI
  simp only [Option.map_some, Addr.add_mid] at hsI
  have hrI := hp.cut (k := 1) (by omega)
  rw [if_neg (by omega)] at hrI
  simp only [Option.map_some, Addr.add_mid] at hrI
  have hcb := le_R16 hb
  obtain ⟨q, hq⟩ : ∃ q, n / 16 = q := ⟨_, rfl⟩
  have hq1 : Int.tdiv (n : Int) 16 = (q : Int) := by rw [Int.tdiv_eq_ediv_of_nonneg (by omega)]; omega
  have hq2 : (n : Int) / 16 = (q : Int) := by omega
  obtain ⟨n5, hn5⟩ : ∃ n5, q * 16 = n5 := ⟨_, rfl⟩
  have hn5i : (q : Int) * 16 = (n5 : Int) := by omega
  have hn5w : IntKind.i64.wrap (n5 : Int) = (n5 : Int) := IntWalk.i64_in _ (by omega)
  have hsl := slice_to C n cb n5 hb.spot (by omega)
  have HH := Lib.hid (And.intro hcall (And.intro hrI (And.intro hb (And.intro hcell hTG))))
  have HI := Lib.hid (And.intro hcv hsI)
  clear hcv hsI hrI hcell hz hnv hcp
  have HQ := Lib.hid (And.intro hq hn5)
  clear hcall hp hb hk hTG hq hn5
  by_cases h16 : n5 = n
  · have he : ((n5 : Int) == (n : Int)) = true := by simp; omega
    clear h16
    cases enc
    all_goals
      go_enter Try.func15, Try.ntmps15
      go_wp2_with fail
      refine HH.out.1.mono ?_
      rintro e w1 ⟨c, kb, R, cap, g1, g2, rfl, hC, hB⟩
      have hR : (rks k).length / 16 = R := by have : (rks k).length = 16 * R := hC.2.2.1; omega
      have hTG := HH.out.2.2.2.2
      rw [hR] at hTG
      have hEl : ∀ l : List UInt8, l.length = 16 → (encL (rks k) R l).length = 16 := fun l hl => enc_ne _ R l hl hC.2.2.1
      have hen := REn.of hC
      obtain ⟨E, hE⟩ : ∃ E, encL (rks k) R = E := ⟨_, rfl⟩
      obtain ⟨D, hD⟩ : ∃ D, decL (rks k) R = D := ⟨_, rfl⟩
      rw [hE, hD] at hen
      rw [hE] at hEl hTG
      have H1 := Lib.hid (And.intro hen (And.intro hEl (And.intro hB hTG)))
      clear hC hen hEl hE hD hR hB hko hTG
      go_upto_region 31 with fail
      refine region_old (by kernel_rfl) (fun wd hHeld hSz => ?_)
      have HSz := Lib.hid hSz
      clear hSz
      have hOd := hHeld
      refine takeL (i := 0) (v := ?_) rfl (by kernel_rfl) (by kernel_rfl) (by kernel_rfl) (fun _ _ _ h => h) (Or.inl ⟨by rfl, ?_⟩) hHeld ?_
      rotate_left
      focus (intro wq hSw; clear hSw; go_simp; try with_reducible rfl)
      try simp only [Act.put, List.setIfInBounds_toArray, List.set_cons_zero, List.set_cons_succ]
      refine takeL (i := 1) (v := ?_) rfl (by kernel_rfl) (by kernel_rfl) (by kernel_rfl) (fun _ _ _ h => h) (Or.inl ⟨by rfl, ?_⟩) hHeld ?_
      rotate_left
      focus (intro wq hSw; clear hSw; go_simp; try with_reducible rfl)
      try simp only [Act.put, List.setIfInBounds_toArray, List.set_cons_zero, List.set_cons_succ]
      refine takeL (i := 2) (v := ?_) rfl (by kernel_rfl) (by kernel_rfl) (by kernel_rfl) (fun _ _ _ h => h) (Or.inl ⟨by rfl, ?_⟩) hHeld ?_
      rotate_left
      focus (intro wq hSw; clear hSw; go_simp; try with_reducible rfl)
      try simp only [Act.put, List.setIfInBounds_toArray, List.set_cons_zero, List.set_cons_succ]
      refine takeL (i := 3) (v := ?_) rfl (by kernel_rfl) (by kernel_rfl) (by kernel_rfl) (fun _ _ _ h => h) (Or.inl ⟨by rfl, ?_⟩) hHeld ?_
      rotate_left
      focus (intro wq hSw; have y := cellOld' (Old.trans H1.out.2.2.1 hSw) HH.out.2.2.2.1; clear hSw; go_simp; try with_reducible rfl)
      try simp only [Act.put, List.setIfInBounds_toArray, List.set_cons_zero, List.set_cons_succ]
      refine takeL (i := 4) (v := ?_) rfl (by kernel_rfl) (by kernel_rfl) (by kernel_rfl) (fun _ _ _ h => h) (Or.inl ⟨by rfl, ?_⟩) hHeld ?_
      rotate_left
      focus (intro wq hSw; have hRun := HI.out.1 wq; clear hSw; go_simp; try with_reducible rfl)
      try simp only [Act.put, List.setIfInBounds_toArray, List.set_cons_zero, List.set_cons_succ]
      refine takeL (i := 5) (v := ?_) rfl (by kernel_rfl) (by kernel_rfl) (by kernel_rfl) (fun _ _ _ h => h) (Or.inl ⟨by rfl, ?_⟩) hHeld ?_
      rotate_left
      focus (intro wq hSw; clear hSw; go_simp; try with_reducible rfl)
      try simp only [Act.put, List.setIfInBounds_toArray, List.set_cons_zero, List.set_cons_succ]
      refine takeL (i := 6) (v := ?_) rfl (by kernel_rfl) (by kernel_rfl) (by kernel_rfl) (fun _ _ _ h => h) (Or.inl ⟨by rfl, ?_⟩) hHeld ?_
      rotate_left
      focus (intro wq hSw; have hRun := HI.out.2 wq; clear hSw; go_simp; try with_reducible rfl)
      try simp only [Act.put, List.setIfInBounds_toArray, List.set_cons_zero, List.set_cons_succ]
      refine takeL (i := 7) (v := ?_) rfl (by kernel_rfl) (by kernel_rfl) (by kernel_rfl) (fun _ _ _ h => h) (Or.inl ⟨by rfl, ?_⟩) hHeld ?_
      rotate_left
      focus (intro wq hSw; clear hSw; go_simp; try with_reducible rfl)
      try simp only [Act.put, List.setIfInBounds_toArray, List.set_cons_zero, List.set_cons_succ]
      refine wpAnyH_ready (rs := [8]) (by kernel_rfl) (by simp) ?_
      refine consL rfl (fun K hK => ?_) AllReadyH.nil
      go_simp
      refine (rctr_any c nv E D (some ⟨bp, op + 1, none⟩) C (cp - 1) n cb _ b wd (H1.out.1.below hOd) H1.out.2.1 hz1 ((HH.out.2.1.below H1.out.2.2.1).below hOd) ((HH.out.2.2.1.below H1.out.2.2.1).below hOd) (by omega)).mono ?_
      rintro e w4 ⟨A4, n4, c4, rfl, hO4, hB4⟩
      refine hK.out _ _ (Old.trans hHeld hB4) (fun hHeld => ?_)
      clear hK K
      try simp only [Act.put, List.setIfInBounds_toArray, List.set_cons_zero, List.set_cons_succ]
      refine takeL (i := 9) (v := ?_) rfl (by kernel_rfl) (by kernel_rfl) (by kernel_rfl) (fun _ _ _ h => h) (Or.inl ⟨by rfl, ?_⟩) hHeld ?_
      rotate_left
      focus (intro wq hSw; clear hSw; go_simp; try with_reducible rfl)
      try simp only [Act.put, List.setIfInBounds_toArray, List.set_cons_zero, List.set_cons_succ]
      refine takeL (i := 10) (v := ?_) rfl (by kernel_rfl) (by kernel_rfl) (by kernel_rfl) (fun _ _ _ h => h) (Or.inl ⟨by rfl, ?_⟩) hHeld ?_
      rotate_left
      focus (intro wq hSw; clear hSw; go_simp; try with_reducible rfl)
      try simp only [Act.put, List.setIfInBounds_toArray, List.set_cons_zero, List.set_cons_succ]
      refine wpAnyH_done (by kernel_rfl) ?_ _
      refine NoPanic.normal ?_
      have HO := Lib.hid hHeld
      clear hOd hHeld
      try simp only [Exit.then]
      try go_at_K
      go_wp2_with fail
      refine bodyPost_ret (results_tmp2 rfl _ _ _) rfl ?_
      rw [← H1.out.2.2.2]
      exact ⟨_, _, _, rfl, hO4.rd, fun ad e => (by have h1 := hO4.addr_ge ad e; have h2 := H1.out.2.2.1.size; have h3 := HSz.out; omega), Old.trans H1.out.2.2.1 HO.out⟩
  · have he : ((n5 : Int) == (n : Int)) = false := by simp; omega
    clear h16
    cases enc
    all_goals
      go_enter Try.func15, Try.ntmps15
      go_wp2_with fail
      refine HH.out.1.mono ?_
      rintro e w1 ⟨c, kb, R, cap, g1, g2, rfl, hC, hB⟩
      have hR : (rks k).length / 16 = R := by have : (rks k).length = 16 * R := hC.2.2.1; omega
      have hTG := HH.out.2.2.2.2
      rw [hR] at hTG
      have hEl : ∀ l : List UInt8, l.length = 16 → (encL (rks k) R l).length = 16 := fun l hl => enc_ne _ R l hl hC.2.2.1
      have hen := REn.of hC
      obtain ⟨E, hE⟩ : ∃ E, encL (rks k) R = E := ⟨_, rfl⟩
      obtain ⟨D, hD⟩ : ∃ D, decL (rks k) R = D := ⟨_, rfl⟩
      rw [hE, hD] at hen
      rw [hE] at hEl hTG
      have H1 := Lib.hid (And.intro hen (And.intro hEl (And.intro hB hTG)))
      clear hC hen hEl hE hD hR hB hko hTG
      go_upto_region 31 with fail
      refine region_old (by kernel_rfl) (fun wd hHeld hSz => ?_)
      have HSz := Lib.hid hSz
      clear hSz
      have hOd := hHeld
      refine takeL (i := 0) (v := ?_) rfl (by kernel_rfl) (by kernel_rfl) (by kernel_rfl) (fun _ _ _ h => h) (Or.inl ⟨by rfl, ?_⟩) hHeld ?_
      rotate_left
      focus (intro wq hSw; clear hSw; go_simp; try with_reducible rfl)
      try simp only [Act.put, List.setIfInBounds_toArray, List.set_cons_zero, List.set_cons_succ]
      refine takeL (i := 1) (v := ?_) rfl (by kernel_rfl) (by kernel_rfl) (by kernel_rfl) (fun _ _ _ h => h) (Or.inl ⟨by rfl, ?_⟩) hHeld ?_
      rotate_left
      focus (intro wq hSw; clear hSw; go_simp; try with_reducible rfl)
      try simp only [Act.put, List.setIfInBounds_toArray, List.set_cons_zero, List.set_cons_succ]
      refine takeL (i := 2) (v := ?_) rfl (by kernel_rfl) (by kernel_rfl) (by kernel_rfl) (fun _ _ _ h => h) (Or.inl ⟨by rfl, ?_⟩) hHeld ?_
      rotate_left
      focus (intro wq hSw; clear hSw; go_simp; try with_reducible rfl)
      try simp only [Act.put, List.setIfInBounds_toArray, List.set_cons_zero, List.set_cons_succ]
      refine takeL (i := 3) (v := ?_) rfl (by kernel_rfl) (by kernel_rfl) (by kernel_rfl) (fun _ _ _ h => h) (Or.inl ⟨by rfl, ?_⟩) hHeld ?_
      rotate_left
      focus (intro wq hSw; have y := cellOld' (Old.trans H1.out.2.2.1 hSw) HH.out.2.2.2.1; clear hSw; go_simp; try with_reducible rfl)
      try simp only [Act.put, List.setIfInBounds_toArray, List.set_cons_zero, List.set_cons_succ]
      refine takeL (i := 4) (v := ?_) rfl (by kernel_rfl) (by kernel_rfl) (by kernel_rfl) (fun _ _ _ h => h) (Or.inl ⟨by rfl, ?_⟩) hHeld ?_
      rotate_left
      focus (intro wq hSw; have hRun := HI.out.1 wq; clear hSw; go_simp; try with_reducible rfl)
      try simp only [Act.put, List.setIfInBounds_toArray, List.set_cons_zero, List.set_cons_succ]
      refine takeL (i := 5) (v := ?_) rfl (by kernel_rfl) (by kernel_rfl) (by kernel_rfl) (fun _ _ _ h => h) (Or.inl ⟨by rfl, ?_⟩) hHeld ?_
      rotate_left
      focus (intro wq hSw; clear hSw; go_simp; try with_reducible rfl)
      try simp only [Act.put, List.setIfInBounds_toArray, List.set_cons_zero, List.set_cons_succ]
      refine takeL (i := 6) (v := ?_) rfl (by kernel_rfl) (by kernel_rfl) (by kernel_rfl) (fun _ _ _ h => h) (Or.inl ⟨by rfl, ?_⟩) hHeld ?_
      rotate_left
      focus (intro wq hSw; have hRun := HI.out.2 wq; clear hSw; go_simp; try with_reducible rfl)
      try simp only [Act.put, List.setIfInBounds_toArray, List.set_cons_zero, List.set_cons_succ]
      refine takeL (i := 7) (v := ?_) rfl (by kernel_rfl) (by kernel_rfl) (by kernel_rfl) (fun _ _ _ h => h) (Or.inl ⟨by rfl, ?_⟩) hHeld ?_
      rotate_left
      focus (intro wq hSw; clear hSw; go_simp; try with_reducible rfl)
      try simp only [Act.put, List.setIfInBounds_toArray, List.set_cons_zero, List.set_cons_succ]
      refine wpAnyH_ready (rs := [8]) (by kernel_rfl) (by simp) ?_
      refine consL rfl (fun K hK => ?_) AllReadyH.nil
      go_simp
      refine (rctr_any c nv E D (some ⟨bp, op + 1, none⟩) C (cp - 1) n cb _ b wd (H1.out.1.below hOd) H1.out.2.1 hz1 ((HH.out.2.1.below H1.out.2.2.1).below hOd) ((HH.out.2.2.1.below H1.out.2.2.1).below hOd) (by omega)).mono ?_
      rintro e w4 ⟨A4, n4, c4, rfl, hO4, hB4⟩
      refine hK.out _ _ (Old.trans hHeld hB4) (fun hHeld => ?_)
      clear hK K
      try simp only [Act.put, List.setIfInBounds_toArray, List.set_cons_zero, List.set_cons_succ]
      refine takeL (i := 9) (v := ?_) rfl (by kernel_rfl) (by kernel_rfl) (by kernel_rfl) (fun _ _ _ h => h) (Or.inl ⟨by rfl, ?_⟩) hHeld ?_
      rotate_left
      focus (intro wq hSw; clear hSw; go_simp; try with_reducible rfl)
      try simp only [Act.put, List.setIfInBounds_toArray, List.set_cons_zero, List.set_cons_succ]
      refine takeL (i := 10) (v := ?_) rfl (by kernel_rfl) (by kernel_rfl) (by kernel_rfl) (fun _ _ _ h => h) (Or.inl ⟨by rfl, ?_⟩) hHeld ?_
      rotate_left
      focus (intro wq hSw; clear hSw; go_simp; try with_reducible rfl)
      try simp only [Act.put, List.setIfInBounds_toArray, List.set_cons_zero, List.set_cons_succ]
      refine wpAnyH_done (by kernel_rfl) ?_ _
      refine NoPanic.normal ?_
      have HO := Lib.hid hHeld
      clear hOd hHeld
      try simp only [Exit.then]
      try go_at_K
      go_wp2_with fail
      refine bodyPost_ret (results_tmp2 rfl _ _ _) rfl ?_
      rw [← H1.out.2.2.2]
      exact ⟨_, _, _, rfl, hO4.rd, fun ad e => (by have h1 := hO4.addr_ge ad e; have h2 := H1.out.2.2.1.size; have h3 := HSz.out; omega), Old.trans H1.out.2.2.1 HO.out⟩
end Go.Proofs.Ytiocmebcbhbcmaa
