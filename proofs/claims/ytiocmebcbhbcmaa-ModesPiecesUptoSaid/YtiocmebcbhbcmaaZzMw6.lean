/-
  Modes, the document's answer: Ready, Holds.
  Modes: what has come out, plainly: how much it is, and that the document's answer at the front says the same.
  Modes, the document's answer: Front.
  Modes: what stands between two parts of a stream in the laws; New, refused or not; Final beside the document's answer.
-/
import Derived.Test.YtiocmebcbhbcmaaZzMr14
import Derived.Test.YtiocmebcbhbcmaaZzMr15
import Derived.Test.YtiocmebcbhbcmaaZzMw5
import Derived.Test.YtiocmebcbhbcmaaZzMoE
namespace Go.Proofs.Ytiocmebcbhbcmaa
set_option maxRecDepth 100000
open Go.RowKit

/-- How many bytes have come out when n came. -/
def readyF (M : Nat) (enc : Bool) (n : Nat) : Nat :=
  if M = 4 then n else if M = 5 then (if enc then n else 0) else if M = 3 ∧ enc = false then (n - 1) / 16 * 16 else n / 16 * 16
theorem ready_waits (s : PS) (n : Nat) : readyF s.mode s.enc n + s.waits n = n := by
  unfold readyF PS.waits PS.nb PS.keep
  split
  · omega
  · split
    · split <;> omega
    · split <;> omega
set_option maxHeartbeats 2000000 in
theorem rready_any (M : Nat) (enc : Bool) (n : Nat) (w : World) (hM : 1 ≤ M ∧ M ≤ 5) (hn : n ≤ 1000000) :
    Calls Try.prog 44 #[.int .i64 (M : Int), .bool enc, .int .i64 (n : Int)] w fun e w' => e = .returned (.int .i64 (readyF M enc n : Int)) ∧ w = w' := by
  obtain ⟨q, hq⟩ : ∃ q, n / 16 = q := ⟨_, rfl⟩
  have hq1 : Int.tdiv (n : Int) 16 = (q : Int) := by rw [Int.tdiv_eq_ediv_of_nonneg (by omega)]; omega
  have hq2 : (n : Int) / 16 = (q : Int) := by omega
  obtain ⟨n5, hn5⟩ : ∃ n5, q * 16 = n5 := ⟨_, rfl⟩
  have hn5i : (q : Int) * 16 = (n5 : Int) := by omega
  have hn5w : IntKind.i64.wrap (n5 : Int) = (n5 : Int) := IntWalk.i64_in _ (by omega)
  have HQ := Lib.hid (And.intro hq hn5)
  have hcase : M = 1 ∨ M = 2 ∨ M = 3 ∨ M = 4 ∨ M = 5 := by omega
  clear hM hq hn5
  have e1 : ∀ K, K = 1 ∨ K = 2 → readyF K enc n = n5 := fun K hK => by
    unfold readyF
    rw [if_neg (by omega), if_neg (by omega), if_neg (by omega), HQ.out.1, HQ.out.2]
  have e3 : enc = true → readyF 3 enc n = n5 := fun he => by
    subst he
    unfold readyF
    rw [if_neg (by omega), if_neg (by omega), if_neg (by simp), HQ.out.1, HQ.out.2]
  have e3f : enc = false → readyF 3 enc n = (n - 1) / 16 * 16 := fun he => by
    subst he
    unfold readyF
    rw [if_neg (by omega), if_neg (by omega), if_pos ⟨rfl, rfl⟩]
  have e4 : readyF 4 enc n = n := by unfold readyF; rw [if_pos rfl]
  have e5 : readyF 5 enc n = if enc then n else 0 := by unfold readyF; rw [if_neg (by omega), if_pos rfl]
  have HE := Lib.hid (And.intro e1 (And.intro e3 (And.intro e3f (And.intro e4 e5))))
  clear e1 e3 e3f e4 e5
  rcases hcase with rfl | rfl | rfl | rfl | rfl
  · rw [HE.out.1 1 (.inl rfl)]
    cases enc
    all_goals
      go_enter Try.func44, Try.ntmps44
      go_wp2_with fail
      go_ret
      exact ⟨rfl, rfl⟩
  · rw [HE.out.1 2 (.inr rfl)]
    cases enc
    all_goals
      go_enter Try.func44, Try.ntmps44
      go_wp2_with fail
      go_ret
      exact ⟨rfl, rfl⟩
  · cases enc with
    | true =>
      rw [HE.out.2.1 rfl]
      go_enter Try.func44, Try.ntmps44
      go_wp2_with fail
      go_ret
      exact ⟨rfl, rfl⟩
    | false =>
      rw [HE.out.2.2.1 rfl]
      by_cases h0 : n = 0
      · subst h0
        go_enter Try.func44, Try.ntmps44
        go_wp2_with fail
        go_ret
        exact ⟨rfl, rfl⟩
      · have hb : ((n : Int) == 0) = false := by simp; omega
        obtain ⟨m, hm⟩ : ∃ m, n - 1 = m := ⟨_, rfl⟩
        have hmi : (n : Int) - 1 = (m : Int) := by omega
        have hmw : IntKind.i64.wrap (m : Int) = (m : Int) := IntWalk.i64_in _ (by omega)
        obtain ⟨r, hr⟩ : ∃ r, m / 16 = r := ⟨_, rfl⟩
        have hr1 : Int.tdiv (m : Int) 16 = (r : Int) := by rw [Int.tdiv_eq_ediv_of_nonneg (by omega)]; omega
        have hr2 : (m : Int) / 16 = (r : Int) := by omega
        obtain ⟨t, ht⟩ : ∃ t, r * 16 = t := ⟨_, rfl⟩
        have hti : (r : Int) * 16 = (t : Int) := by omega
        have htw : IntKind.i64.wrap (t : Int) = (t : Int) := IntWalk.i64_in _ (by omega)
        rw [hm, hr, ht]
        clear h0 hm hr ht HE HQ
        go_enter Try.func44, Try.ntmps44
        go_wp2_with fail
        go_ret
        exact ⟨rfl, rfl⟩
  · rw [HE.out.2.2.2.1]
    cases enc
    all_goals
      go_enter Try.func44, Try.ntmps44
      go_wp2_with fail
      go_ret
      exact ⟨rfl, rfl⟩
  · rw [HE.out.2.2.2.2]
    cases enc with
    | true =>
      rw [if_pos rfl]
      go_enter Try.func44, Try.ntmps44
      go_wp2_with fail
      go_ret
      exact ⟨rfl, rfl⟩
    | false =>
      rw [if_neg (by decide)]
      go_enter Try.func44, Try.ntmps44
      go_wp2_with fail
      go_ret
      exact ⟨rfl, rfl⟩
set_option maxHeartbeats 2000000 in
theorem rholds_any (s : PS) (n : Nat) (w : World) (hM : 1 ≤ s.mode ∧ s.mode ≤ 5) (hn : n ≤ 1000000) :
    Calls Try.prog 20 #[.int .i64 (s.mode : Int), .bool s.enc, .int .i64 (n : Int)] w fun e w' => e = .returned (.int .i64 (s.waits n : Int)) ∧ w = w' := by
  have hcall := rready_any s.mode s.enc n w hM hn
  have hsum := ready_waits s n
  obtain ⟨M, hMe⟩ : ∃ M, s.mode = M := ⟨_, rfl⟩
  obtain ⟨b, hbe⟩ : ∃ b, s.enc = b := ⟨_, rfl⟩
  obtain ⟨v, hv⟩ : ∃ v, s.waits n = v := ⟨_, rfl⟩
  have h5 : M = 5 → b = true → v = 0 := fun h1 h2 => by
    rw [← hv]; unfold PS.waits; rw [hMe, hbe, if_neg (by omega), if_pos h1, if_pos h2]
  rw [hMe, hbe, hv] at hsum
  rw [hMe, hbe] at hcall
  rw [hMe] at hM
  rw [hMe, hbe, hv]
  obtain ⟨r, hr⟩ : ∃ r, readyF M b n = r := ⟨_, rfl⟩
  rw [hr] at hcall hsum
  have hd : (n : Int) - (r : Int) = (v : Int) := by omega
  have hvw : IntKind.i64.wrap (v : Int) = (v : Int) := IntWalk.i64_in _ (by omega)
  have HC := Lib.hid hcall
  clear hcall hsum hMe hbe hv hr
  by_cases hm5 : M = 5
  · subst hm5
    cases b with
    | true =>
      have hv0 := h5 rfl rfl
      subst hv0
      clear h5 hd hvw
      go_enter Try.func20, Try.ntmps20
      go_wp2_with fail
      go_ret
      exact ⟨rfl, rfl⟩
    | false =>
      clear h5
      go_enter Try.func20, Try.ntmps20
      go_wp2_with fail
      refine HC.out.mono ?_
      rintro e w1 ⟨rfl, rfl⟩
      go_wp2_with fail
      go_ret
      exact ⟨rfl, rfl⟩
  · have hb5 : ((M : Int) == 5) = false := by simp; omega
    clear h5 hm5
    go_enter Try.func20, Try.ntmps20
    go_wp2_with fail
    refine HC.out.mono ?_
    rintro e w1 ⟨rfl, rfl⟩
    go_wp2_with fail
    go_ret
    exact ⟨rfl, rfl⟩
end Go.Proofs.Ytiocmebcbhbcmaa
namespace Go.Proofs.Ytiocmebcbhbcmaa
set_option maxRecDepth 100000
open Go.RowKit

theorem blkF_len (mode : Nat) (enc : Bool) (E D : List UInt8 → List UInt8) (hE : ∀ l, l.length = 16 → (E l).length = 16) (hD : ∀ l, l.length = 16 → (D l).length = 16) (iv b : List UInt8) (hi : mode ≠ 1 → iv.length = 16) (hb : b.length = 16) :
    (blkF mode enc E D iv b).1.length = 16 ∧ (mode ≠ 1 → (blkF mode enc E D iv b).2.length = 16) := by
  unfold blkF
  by_cases hm : mode = 1
  · rw [if_pos hm]
    refine ⟨?_, fun h => absurd hm h⟩
    cases enc
    · exact hD b hb
    · exact hE b hb
  · rw [if_neg hm]
    have hi := hi hm
    cases enc
    · exact ⟨xorL_len _ _ 16 (hD b hb) hi, fun _ => hb⟩
    · have := hE (xorL b iv) (xorL_len _ _ 16 hb hi)
      exact ⟨this, fun _ => this⟩
theorem blkN_len (mode : Nat) (enc : Bool) (E D : List UInt8 → List UInt8) (hE : ∀ l, l.length = 16 → (E l).length = 16) (hD : ∀ l, l.length = 16 → (D l).length = 16) : ∀ (q : Nat) (iv l : List UInt8), (mode ≠ 1 → iv.length = 16) → 16 * q ≤ l.length → (blkN mode enc E D q iv l).1.length = 16 * q
  | 0, _, _, _, _ => rfl
  | q + 1, iv, l, hi, hl => by
    have hb : (l.take 16).length = 16 := by rw [List.length_take]; omega
    obtain ⟨h1, h2⟩ := blkF_len mode enc E D hE hD iv (l.take 16) hi hb
    have k1 := blkN_len mode enc E D hE hD q (blkF mode enc E D iv (l.take 16)).2 (l.drop 16) h2 (by rw [List.length_drop]; omega)
    simp only [blkN]
    rw [List.length_append, h1, k1]; omega
theorem blkN_take (mode : Nat) (enc : Bool) (E D : List UInt8 → List UInt8) (q r : Nat) (p b : List UInt8) (hr : r = 16 * q) (hb : r ≤ b.length) : blkN mode enc E D q p (b.take r) = blkN mode enc E D q p b := by
  conv => rhs; rw [← List.take_append_drop r b]
  exact (blkN_front mode enc E D q p (b.take r) (b.drop r) (by rw [List.length_take]; omega)).symm
theorem encdec_len (k : List UInt8) (hk : keyOk k) (l : List UInt8) (hl : l.length = 16) : (encL (rks k) ((rks k).length / 16) l).length = 16 ∧ (decL (rks k) ((rks k).length / 16) l).length = 16 := by
  have h1 := rks_len k hk
  have h2 : (rks k).length / 16 = k.length / 4 + 7 := by rw [h1]; omega
  rw [h2]
  exact ⟨enc_ne _ _ l hl h1, dec_ne _ _ l hl h1 (by omega)⟩
theorem ready_12 (M : Nat) (enc : Bool) (n : Nat) (h : ¬ M = 4) (h5 : ¬ M = 5) (h3 : ¬ (M = 3 ∧ enc = false)) : readyF M enc n = n / 16 * 16 := by
  unfold readyF; rw [if_neg h, if_neg h5, if_neg h3]
theorem front_len (M : Nat) (enc : Bool) (k p b : List UInt8) (hk : keyOk k) (hp : parOk M p) (h1 : 1 ≤ M) (h5 : M ≤ 5) : ((PSof M enc k p).front b).length = readyF M enc b.length := by
  have hE := fun l hl => (encdec_len k hk l hl).1
  have hD := fun l hl => (encdec_len k hk l hl).2
  have hEn : ∀ l : List UInt8, l.length = 16 → (encL (rks k) ((rks k).length / 16)) l ≠ [] := fun l hl e => by
    have := hE l hl
    rw [e] at this
    cases this
  by_cases h4 : M = 4
  · subst h4
    have hc := (PSof 4 enc k p).c0_len hp (.inl rfl)
    show (cnt1 _ _ b [] _).1.length = _
    exact (cnt1_len _ _ hEn b [] _ hc).1
  · by_cases h55 : M = 5
    · subst h55
      have hc := (PSof 5 enc k p).c0_len hp (.inr rfl)
      cases enc
      · rfl
      · show (cnt1 _ _ b [] _).1.length = _
        exact (cnt1_len _ _ hEn b [] _ hc).1
    · have hpl : M ≠ 1 → p.length = 16 := fun hm => by unfold parOk at hp; rw [if_neg hm, if_neg h4, if_neg h55] at hp; exact hp
      rw [PS.front_blk _ h4 h55]
      have hb := (PSof M enc k p).nb_le b.length
      have h := blkN_len M enc _ _ hE hD ((PSof M enc k p).nb b.length) p b hpl hb
      refine h.trans ?_
      by_cases h3 : M = 3 ∧ enc = false
      · obtain ⟨rfl, rfl⟩ := h3
        show 16 * ((b.length - 1) / 16) = (b.length - 1) / 16 * 16
        omega
      · rw [ready_12 M enc _ h4 h55 h3, PS.nb_of _ h3]
        omega
/-- What has come out is what comes out of it at once. -/
theorem front_ref12 (M : Nat) (enc : Bool) (k p b : List UInt8) (h12 : M = 1 ∨ M = 2) :
    (refM M enc (encL (rks k) ((rks k).length / 16)) (decL (rks k) ((rks k).length / 16)) p (b.take (readyF M enc b.length))).1 = (PSof M enc k p).front b := by
  rw [PS.front_blk _ (show ¬ M = 4 by omega) (show ¬ M = 5 by omega), PS.nb_of _ (show ¬ (M = 3 ∧ enc = false) from fun h => by omega), ready_12 M enc _ (by omega) (by omega) (fun h => by omega)]
  have hl : (b.take (b.length / 16 * 16)).length = b.length / 16 * 16 := by rw [List.length_take]; omega
  unfold refM
  rw [if_pos h12, hl, show b.length / 16 * 16 / 16 = b.length / 16 by omega]
  show (blkN M enc _ _ (b.length / 16) p (b.take (b.length / 16 * 16))).1 = _
  rw [blkN_take M enc _ _ _ _ p b (by omega) (by omega)]
  rfl
theorem front_ref3 (enc : Bool) (k p b : List UInt8) :
    (refM 2 enc (encL (rks k) ((rks k).length / 16)) (decL (rks k) ((rks k).length / 16)) p (b.take (readyF 3 enc b.length))).1 = (PSof 3 enc k p).front b := by
  have hr : readyF 3 enc b.length = 16 * (PSof 3 enc k p).nb b.length := by
    have h := ready_waits (PSof 3 enc k p) b.length
    have hle := (PSof 3 enc k p).nb_le b.length
    have hw : (PSof 3 enc k p).waits b.length = b.length - 16 * (PSof 3 enc k p).nb b.length := rfl
    have h' : readyF 3 enc b.length + (PSof 3 enc k p).waits b.length = b.length := h
    omega
  have hle := (PSof 3 enc k p).nb_le b.length
  rw [PS.front_blk _ (show ¬ (3 : Nat) = 4 by decide) (show ¬ (3 : Nat) = 5 by decide), hr]
  obtain ⟨q, hq⟩ : ∃ q, (PSof 3 enc k p).nb b.length = q := ⟨_, rfl⟩
  rw [hq] at hle ⊢
  have hl : (b.take (16 * q)).length = 16 * q := by rw [List.length_take]; omega
  unfold refM
  rw [if_pos (.inr rfl), hl, show 16 * q / 16 = q by omega]
  show (blkN 2 enc _ _ q p (b.take (16 * q))).1 = (blkN 3 enc _ _ q p b).1
  rw [blkN_take 2 enc _ _ _ _ p b rfl hle, blkN_23]
  rfl
theorem front_ref4 (enc : Bool) (k p b : List UInt8) :
    (refM 4 enc (encL (rks k) ((rks k).length / 16)) (decL (rks k) ((rks k).length / 16)) p b).1 = (PSof 4 enc k p).front b := rfl
theorem front_ref5 (k p b : List UInt8) : gcmO (encL (rks k) ((rks k).length / 16)) p b = (PSof 5 true k p).front b := rfl
end Go.Proofs.Ytiocmebcbhbcmaa
namespace Go.Proofs.Ytiocmebcbhbcmaa
set_option maxRecDepth 100000
open Go.RowKit

/-- What Front gives. -/
def FrRes (w : World) (l : List UInt8) (e : Ending) (w' : World) : Prop := ∃ A n c, e = .returned (.slice A n c) ∧ Rd w' A n c l ∧ Old w w'
set_option maxHeartbeats 4000000 in
theorem rfront_any (M : Nat) (enc : Bool) (A P C : Option Addr) (mk ck mp cp n cb : Nat) (k p b : List UInt8) (w : World) (hk : Rd w A mk ck k) (hp : Rd w P mp cp p) (hb : Rd w C n cb b) (hko : keyOk k) (hpo : parOk M p) (h1 : 1 ≤ M) (h5 : M ≤ 5) (hmp : mp ≤ 40000) (hn : n ≤ 40000) :
    Calls Try.prog 18 #[.int .i64 (M : Int), .bool enc, .slice A mk ck, .slice P mp cp, .slice C n cb] w (FrRes w ((PSof M enc k p).front b)) := by
  have hbl := hb.1
  have hlen := front_len M enc k p b hko hpo h1 h5
  rw [← hbl] at hlen
  have hready := rready_any M enc n w ⟨h1, h5⟩ (by omega)
  have hrn : readyF M enc n ≤ n := by have := ready_waits (PSof M enc k p) n; have h : readyF M enc n + (PSof M enc k p).waits n = n := this; omega
  obtain ⟨r, hr⟩ : ∃ r, readyF M enc n = r := ⟨_, rfl⟩
  rw [hr] at hready hlen hrn
  obtain ⟨F, hF⟩ : ∃ F, (PSof M enc k p).front b = F := ⟨_, rfl⟩
  rw [hF] at hlen ⊢
  by_cases h0 : r = 0
  · have hr0 : ((r : Int) == 0) = true := by rw [h0]; rfl
    have hF0 : F = [] := List.eq_nil_of_length_eq_zero (hlen.trans h0)
    subst hF0
    have HH := Lib.hid hready
    clear hready hr hF hlen hk hp hb hko hpo hrn h0 hbl
    go_enter Try.func18, Try.ntmps18
    go_wp2_with fail
    refine HH.out.mono ?_
    rintro e w1 ⟨rfl, rfl⟩
    go_wp2_with fail
    go_ret
    exact ⟨none, 0, 0, rfl, Rd.nil _, Old.refl _⟩
  · have hr0 : ((r : Int) == 0) = false := by simpa using h0
    have hcb := hb.2.1
    have hsl := slice_to C n cb r hb.spot (by omega)
    have hfr := hb.front (k := r) hrn
    have hFr : F.take r = F := List.take_of_length_le (by omega)
    have hmode : M = 1 ∨ M = 2 ∨ M = 3 ∨ M = 4 ∨ M = 5 := by omega
    rcases hmode with rfl | rfl | rfl | rfl | rfl
    · rw [show ((1 : Nat) : Int) = 1 from rfl] at hready ⊢
      have hcall := rall_any 1 enc A P C mk ck mp cp r cb k p (b.take r) w hk hp hfr hko hpo (by omega) (by omega) hmp (by omega)
      have href := front_ref12 1 enc k p b (.inl rfl)
      rw [← hbl, hr, hF] at href
      obtain ⟨G, hG⟩ : ∃ G, refM 1 enc (encL (rks k) ((rks k).length / 16)) (decL (rks k) ((rks k).length / 16)) p (b.take r) = G := ⟨_, rfl⟩
      rw [hG, show ((1 : Nat) : Int) = 1 from rfl] at hcall
      rw [hG] at href
      obtain ⟨G1, gv⟩ := G
      simp only at href
      subst href
      have HH := Lib.hid (And.intro hready (And.intro hcall (And.intro hlen hFr)))
      clear hready hcall hr hF hlen hk hp hb hko hpo hrn hfr hG hFr hbl
      go_enter Try.func18, Try.ntmps18
      go_wp2_with fail
      refine HH.out.1.mono ?_
      rintro e w1 ⟨rfl, rfl⟩
      go_wp2_with fail
      refine HH.out.2.1.mono ?_
      rintro e w4 ⟨A4, n4, c4, rfl, hR4, hB4⟩
      have hn4 : n4 = r := by have h1 := hR4.1; have h2 := HH.out.2.2.1; simp only at h1; omega
      subst hn4
      have hc4 := hR4.2.1
      have hsl4 := slice_to A4 n4 c4 n4 hR4.spot (by omega)
      have H4 := Lib.hid (And.intro hR4 hB4)
      clear hR4 hB4
      go_wp2_with fail
      go_ret
      exact ⟨_, _, _, rfl, H4.out.1, H4.out.2⟩
    · rw [show ((2 : Nat) : Int) = 2 from rfl] at hready ⊢
      have hcall := rall_any 2 enc A P C mk ck mp cp r cb k p (b.take r) w hk hp hfr hko hpo (by omega) (by omega) hmp (by omega)
      have href := front_ref12 2 enc k p b (.inr rfl)
      rw [← hbl, hr, hF] at href
      obtain ⟨G, hG⟩ : ∃ G, refM 2 enc (encL (rks k) ((rks k).length / 16)) (decL (rks k) ((rks k).length / 16)) p (b.take r) = G := ⟨_, rfl⟩
      rw [hG, show ((2 : Nat) : Int) = 2 from rfl] at hcall
      rw [hG] at href
      obtain ⟨G1, gv⟩ := G
      simp only at href
      subst href
      have HH := Lib.hid (And.intro hready (And.intro hcall (And.intro hlen hFr)))
      clear hready hcall hr hF hlen hk hp hb hko hpo hrn hfr hG hFr hbl
      go_enter Try.func18, Try.ntmps18
      go_wp2_with fail
      refine HH.out.1.mono ?_
      rintro e w1 ⟨rfl, rfl⟩
      go_wp2_with fail
      refine HH.out.2.1.mono ?_
      rintro e w4 ⟨A4, n4, c4, rfl, hR4, hB4⟩
      have hn4 : n4 = r := by have h1 := hR4.1; have h2 := HH.out.2.2.1; simp only at h1; omega
      subst hn4
      have hc4 := hR4.2.1
      have hsl4 := slice_to A4 n4 c4 n4 hR4.spot (by omega)
      have H4 := Lib.hid (And.intro hR4 hB4)
      clear hR4 hB4
      go_wp2_with fail
      go_ret
      exact ⟨_, _, _, rfl, H4.out.1, H4.out.2⟩
    · rw [show ((3 : Nat) : Int) = 3 from rfl] at hready ⊢
      have hcall := rall_any 2 enc A P C mk ck mp cp r cb k p (b.take r) w hk hp hfr hko (show parOk 2 p from hpo) (by omega) (by omega) hmp (by omega)
      have href := front_ref3 enc k p b
      rw [← hbl, hr, hF] at href
      obtain ⟨G, hG⟩ : ∃ G, refM 2 enc (encL (rks k) ((rks k).length / 16)) (decL (rks k) ((rks k).length / 16)) p (b.take r) = G := ⟨_, rfl⟩
      rw [hG, show ((2 : Nat) : Int) = 2 from rfl] at hcall
      rw [hG] at href
      obtain ⟨G1, gv⟩ := G
      simp only at href
      subst href
      have HH := Lib.hid (And.intro hready (And.intro hcall (And.intro hlen hFr)))
      clear hready hcall hr hF hlen hk hp hb hko hpo hrn hfr hG hFr hbl
      go_enter Try.func18, Try.ntmps18
      go_wp2_with fail
      refine HH.out.1.mono ?_
      rintro e w1 ⟨rfl, rfl⟩
      go_wp2_with fail
      refine HH.out.2.1.mono ?_
      rintro e w4 ⟨A4, n4, c4, rfl, hR4, hB4⟩
      have hn4 : n4 = r := by have h1 := hR4.1; have h2 := HH.out.2.2.1; simp only at h1; omega
      subst hn4
      have hc4 := hR4.2.1
      have hsl4 := slice_to A4 n4 c4 n4 hR4.spot (by omega)
      have H4 := Lib.hid (And.intro hR4 hB4)
      clear hR4 hB4
      go_wp2_with fail
      go_ret
      exact ⟨_, _, _, rfl, H4.out.1, H4.out.2⟩
    · rw [show ((4 : Nat) : Int) = 4 from rfl] at hready ⊢
      have hcall := rall_any 4 enc A P C mk ck mp cp n cb k p b w hk hp hb hko hpo (by omega) (by omega) hmp (by omega)
      have href := front_ref4 enc k p b
      rw [hF] at href
      obtain ⟨G, hG⟩ : ∃ G, refM 4 enc (encL (rks k) ((rks k).length / 16)) (decL (rks k) ((rks k).length / 16)) p b = G := ⟨_, rfl⟩
      rw [hG, show ((4 : Nat) : Int) = 4 from rfl] at hcall
      rw [hG] at href
      obtain ⟨G1, gv⟩ := G
      simp only at href
      subst href
      have HH := Lib.hid (And.intro hready (And.intro hcall (And.intro hlen hFr)))
      clear hready hcall hr hF hlen hk hp hb hko hpo hrn hfr hG hFr hbl
      go_enter Try.func18, Try.ntmps18
      go_wp2_with fail
      refine HH.out.1.mono ?_
      rintro e w1 ⟨rfl, rfl⟩
      go_wp2_with fail
      refine HH.out.2.1.mono ?_
      rintro e w4 ⟨A4, n4, c4, rfl, hR4, hB4⟩
      have hn4 : n4 = r := by have h1 := hR4.1; have h2 := HH.out.2.2.1; simp only at h1; omega
      subst hn4
      have hc4 := hR4.2.1
      have hsl4 := slice_to A4 n4 c4 n4 hR4.spot (by omega)
      have H4 := Lib.hid (And.intro hR4 hB4)
      clear hR4 hB4
      go_wp2_with fail
      go_ret
      exact ⟨_, _, _, rfl, H4.out.1, H4.out.2⟩
    · rw [show ((5 : Nat) : Int) = 5 from rfl] at hready ⊢
      cases enc
      · exact absurd hr.symm h0
      · have hg : gcmOk p := hpo
        have hF5 := front_ref5 k p b
        rw [hF] at hF5
        have hcall := rnew_any A mk ck k w hk hko
        have hEl : ∀ l, l.length = 16 → (encL (rks k) ((rks k).length / 16) l).length = 16 := fun l hl => (encdec_len k hko l hl).1
        have HH := Lib.hid (And.intro hready (And.intro hcall (And.intro hp (And.intro hb (And.intro hg (And.intro hF5 hEl))))))
        clear hready hcall hr hF hlen hk hp hb hko hpo hrn hfr hg hF5 hFr hcb hEl hbl
        go_enter Try.func18, Try.ntmps18
        go_wp2_with fail
        refine HH.out.1.mono ?_
        rintro e w1 ⟨rfl, rfl⟩
        go_wp2_with fail
        refine HH.out.2.1.mono ?_
        rintro e w2 ⟨c, kb, R, cap, g1, g2, rfl, hC, hB⟩
        have hR : (rks k).length / 16 = R := by have : (rks k).length = 16 * R := hC.2.2.1; omega
        have hF5 := HH.out.2.2.2.2.2.1
        have hEl := HH.out.2.2.2.2.2.2
        rw [hR] at hF5 hEl
        have hen := REn.of hC
        obtain ⟨E, hE⟩ : ∃ E, encL (rks k) R = E := ⟨_, rfl⟩
        obtain ⟨D, hD⟩ : ∃ D, decL (rks k) R = D := ⟨_, rfl⟩
        rw [hE] at hF5 hEl hen
        rw [hD] at hen
        have H1 := Lib.hid (And.intro hen (And.intro hB (And.intro hF5 hEl)))
        clear hC hen hE hD hR hB hF5 hEl
        go_wp2_with (go_at_call 37; refine (rgcm_any c true E D P C mp cp n cb p b w2 H1.out.1 H1.out.2.2.2 (HH.out.2.2.1.below H1.out.2.1) HH.out.2.2.2.2.1 hmp (HH.out.2.2.2.1.below H1.out.2.1) hn).mono ?_; rintro e w4 ⟨A4, n4, c4, A5, c5, rfl, hO4, hR5, hd5, hB4⟩; have H4 := Lib.hid (And.intro hO4 hB4); clear hO4 hR5 hd5 hB4)
        go_ret
        rw [← H1.out.2.2.1]
        exact ⟨_, _, _, rfl, H4.out.1.rd, Old.trans H1.out.2.1 H4.out.2⟩
end Go.Proofs.Ytiocmebcbhbcmaa
namespace Go.Proofs.Ytiocmebcbhbcmaa
set_option maxRecDepth 100000
open Go.RowKit

theorem new_bad (mode : Int) (enc : Bool) (A C : Option Addr) (mk ck m cm : Nat) (k p : List UInt8) (w : World) (hk : Rd w A mk ck k) (hp : Rd w C m cm p) (hm : m ≤ 2000000) (h : mayF mode k p ≠ 0) :
    Calls Try.prog 16 #[.int .i64 mode, .bool enc, .slice A mk ck, .slice C m cm] w fun e w' => e = .returned (.tuple #[.pointer none, .int .i64 (mayF mode k p)]) ∧ Old w w' := by
  unfold mayF at h ⊢
  by_cases h1 : mode < 1 ∨ 5 < mode
  · rw [if_pos h1]
    exact (new_mode mode enc A C mk ck m cm w h1).mono fun e w' ⟨h, h'⟩ => ⟨h, by subst h'; exact Old.refl _⟩
  · rw [if_neg h1] at h ⊢
    obtain ⟨mo, rfl⟩ := Int.eq_ofNat_of_zero_le (show 0 ≤ mode by omega)
    rw [Int.toNat_natCast] at h ⊢
    refine (modesNew_any mo enc A C mk ck m cm k p w hk hp hm (by omega) (by omega)).mono fun e w' hN => ?_
    unfold NewPost at hN
    by_cases h2 : keyOk k
    · rw [if_neg (fun h => h h2)] at h hN
      rw [if_neg (fun h => h h2)]
      by_cases h3 : parOk mo p
      · rw [if_neg (fun h => h h3)] at h
        exact absurd rfl h
      · rw [if_pos h3] at hN ⊢
        exact hN
    · rw [if_pos h2] at hN ⊢
      exact hN
theorem new_good (mo : Nat) (enc : Bool) (A C : Option Addr) (mk ck m cm : Nat) (k p : List UInt8) (w : World) (hk : Rd w A mk ck k) (hp : Rd w C m cm p) (hm : m ≤ 2000000) (h1 : 1 ≤ mo) (h5 : mo ≤ 5) (hko : keyOk k) (hpo : parOk mo p) :
    Calls Try.prog 16 #[.int .i64 (mo : Int), .bool enc, .slice A mk ck, .slice C m cm] w fun e w' => ∃ d, e = .returned (.tuple #[.pointer (some ⟨d, 0, none⟩), .int .i64 0]) ∧ NewRes w (PSof mo enc k p) w' d := by
  refine (modesNew_any mo enc A C mk ck m cm k p w hk hp hm h1 h5).mono fun e w' hN => ?_
  unfold NewPost at hN
  rwa [if_neg (fun h => h hko), if_neg (fun h => h hpo)] at hN
theorem fin_ref (mo : Nat) (enc : Bool) (k p al : List UInt8) (hk : keyOk k) (hp : parOk mo p) (h1 : 1 ≤ mo) (h5 : mo ≤ 5) : ∃ R : List UInt8 × Int, refM mo enc (encL (rks k) ((rks k).length / 16)) (decL (rks k) ((rks k).length / 16)) p al = R ∧
    ((PSof mo enc k p).fin al).2 = R.2 ∧ (R.2 = 0 → R.1 = (PSof mo enc k p).front al ++ ((PSof mo enc k p).fin al).1) := by
  refine ⟨_, rfl, ?_⟩
  have hs := refM_same mo enc k p al hk hp h1 h5
  rw [allF_val mo enc k p al hk hp h1 h5] at hs
  obtain ⟨s1, s2, _⟩ := hs
  by_cases h : ((PSof mo enc k p).fin al).2 = 0
  · rw [if_pos h] at s1 s2
    refine ⟨by rw [h]; exact s1, fun h0 => (s2 h0).symm⟩
  · rw [if_neg h] at s1 s2
    exact ⟨s1, fun h0 => absurd (s1.trans h0) h⟩
theorem fin_nil (s : PS) (al : List UInt8) (h : (s.fin al).2 ≠ 0) : (s.fin al).1 = [] := by
  unfold PS.fin at h ⊢
  by_cases h4 : s.mode = 4
  · rw [if_pos h4]
  · rw [if_neg h4] at h ⊢
    by_cases h5 : s.mode = 5
    · rw [if_pos h5] at h ⊢
      cases he : s.enc
      · rw [he, if_neg (by decide)] at h
        rw [if_neg (by decide)]
        unfold PS.open_ at h ⊢
        split
        · rfl
        · rename_i h6
          rw [if_neg h6] at h
          split
          · rename_i h7
            rw [if_pos h7] at h
            exact absurd rfl h
          · rfl
      · rw [he, if_pos rfl] at h
        exact absurd rfl h
    · rw [if_neg h5] at h ⊢
      unfold endB at h ⊢
      by_cases h3 : s.mode = 3
      · rw [if_pos h3] at h ⊢
        cases he : s.enc
        · rw [he, if_neg (by decide)] at h
          rw [if_neg (by decide)]
          split
          · rename_i h6
            rw [if_pos h6] at h
            unfold stripF at h ⊢
            split
            · rename_i h7
              rw [if_pos h7] at h
              exact absurd rfl h
            · rfl
          · rfl
        · rw [he, if_pos rfl] at h
          exact absurd rfl h
      · rw [if_neg h3] at h ⊢
        split
        · rfl
        · split <;> rfl
/-- What stands between two parts. -/
structure MsI (w1 wr : World) (d : Nat) (s : PS) (A : Option Addr) (n c : Nat) (al : List UInt8) (G : List Nat) (j kf : Nat) : Prop where
  own : Own wr w1.heap.size (.slice A n c) al
  str : StrAt wr G d s al
  gl : ∀ x ∈ G, w1.heap.size ≤ x ∧ x < wr.heap.size
  ng : ∀ g, (Value.slice A n c).ownBlock = some g → g ∉ G
  old : Old w1 wr
  len : al.length ≤ 40 * j
  kf : (s.front al).length = kf
theorem MsI.below {w1 wr w : World} {d : Nat} {s : PS} {A : Option Addr} {n c : Nat} {al : List UInt8} {G : List Nat} {j kf : Nat} (h : MsI w1 wr d s A n c al G j kf) (hb : Old wr w) : MsI w1 w d s A n c al G j kf :=
  ⟨h.own.below hb, h.str.below hb, fun x hx => ⟨(h.gl x hx).1, Nat.lt_of_lt_of_le (h.gl x hx).2 hb.size⟩, h.ng, Old.trans h.old hb, h.len, h.kf⟩
theorem MsI.start {w1 w2 : World} {d : Nat} {s : PS} (h : NewRes w1 s w2 d) : ∃ G, MsI w1 w2 d s none 0 0 [] G 0 0 := by
  obtain ⟨G, h1, h2, h3⟩ := h
  exact ⟨G, Own.nil _ _, h1, h2, fun g hg => by simp [Value.ownBlock] at hg, h3, by simp, by rw [PS.front_nil]; rfl⟩
/-- A part is laid down anew and is put behind all that came. -/
theorem ms_upd {w1 wr w2 w3 : World} {d : Nat} {s : PS} {A Ap Aa : Option Addr} {n c np cp na ca : Nat} {al pl : List UInt8} {G : List Nat} {j kf : Nat} (h : MsI w1 wr d s A n c al G j kf)
    (hGp : Grew wr.heap.size wr w2 (.slice none 0 0) Ap np cp ([] ++ pl)) (hGa : Grew w1.heap.size w2 w3 (.slice A n c) Aa na ca (al ++ ([] ++ pl))) :
    StrAt w3 G d s al ∧ Own w3 wr.heap.size (.slice Ap np cp) pl ∧ (∀ ad, Ap = some ad → ad.block ∉ G) ∧ (∀ x ∈ G, x < w3.heap.size) ∧ Own w3 w1.heap.size (.slice Aa na ca) (al ++ pl) ∧
      (∀ g, (Value.slice Aa na ca).ownBlock = some g → g ∉ G) ∧ (∀ g, (Value.slice Ap np cp).ownBlock = some g → (Value.slice Aa na ca).ownBlock ≠ some g) ∧ Old w1 w3 ∧ np = pl.length := by
  have hT3 : Turn (Value.slice A n c).ownBlock.toList w2 w3 := Turn.of_grown hGa.grown
  have hOp := hGp.own
  rw [List.nil_append] at hOp
  have hOa := hGa.own
  rw [List.nil_append] at hOa
  have hs2 := hGp.below.size
  have hs3 := hT3.size
  refine ⟨(h.str.below hGp.below).turn hT3 (fun x hx => h.ng x (by simpa using hx)), hOp.turn hT3 (fun g hg hm => ?_), fun ad e hm => ?_, fun x hx => by have := (h.gl x hx).2; omega, hOa, fun g hg hm => ?_, fun g hg e => ?_, ?_, hOp.len⟩
  · have h1 := (hOp.lt hg).1
    have h2 := (h.own.lt (show _ = some g by simpa using hm)).2
    omega
  · subst e
    have h1 := (hOp.lt (show (Value.slice (some ad) np cp).ownBlock = some ad.block from rfl)).1
    have h2 := (h.gl _ hm).2
    omega
  · rcases hGa.at_ with h2 | h2
    · rw [h2] at hg
      exact h.ng g hg hm
    · rw [h2] at hg
      cases hg
      have := (h.gl _ hm).2
      omega
  · have h1 := hOp.lt hg
    rcases hGa.at_ with h2 | h2
    · rw [h2] at e
      have := (h.own.lt e).2
      omega
    · rw [h2] at e
      cases e
      omega
  · exact below_turn (Old.trans h.old hGp.below) hT3 (fun t hm => (h.own.lt (show _ = some t by simpa using hm)).1) (Old.trans h.old hGp.below).size
theorem ms_next {w1 wr w2 w3 w4 : World} {d : Nat} {s : PS} {A Ap Aa Ao : Option Addr} {n c np cp na ca no co : Nat} {al pl out : List UInt8} {G G' : List Nat} {j kf : Nat} (h : MsI w1 wr d s A n c al G j kf)
    (hGp : Grew wr.heap.size wr w2 (.slice none 0 0) Ap np cp ([] ++ pl)) (hGa : Grew w1.heap.size w2 w3 (.slice A n c) Aa na ca (al ++ ([] ++ pl))) (hpl : pl.length ≤ 40)
    (hO : Own w4 w3.heap.size (.slice Ao no co) out) (hS : StrAt w4 G' d s (al ++ pl)) (hT : Turn G w3 w4) (hG1 : ∀ x ∈ G', x ∈ G ∨ w3.heap.size ≤ x) (hG2 : ∀ x ∈ G', x < w4.heap.size) (hng : ∀ g, (Value.slice Ao no co).ownBlock = some g → g ∉ G') :
    Own w4 wr.heap.size (.slice Ap np cp) pl ∧ ∀ wz, Turn (Value.slice Ap np cp).ownBlock.toList w4 wz → MsI w1 wz d s Aa na ca (al ++ pl) G' (j + 1) ((s.front (al ++ pl)).length) ∧ Own wz w3.heap.size (.slice Ao no co) out := by
  obtain ⟨h1, h2, h3, h4, h5, h6, h7, h8, h9⟩ := ms_upd h hGp hGa
  have hp4 : Own w4 wr.heap.size (.slice Ap np cp) pl := h2.turn hT (fun g hg hm => by have := (h2.lt hg).1; have := (h.gl g hm).2; omega)
  have ha4 : Own w4 w1.heap.size (.slice Aa na ca) (al ++ pl) := h5.turn hT h6
  have hs4 := hT.size
  have hpG : ∀ x, (Value.slice Ap np cp).ownBlock = some x → x ∉ G' := fun x hx hm => by
    have a1 := h2.lt hx
    rcases hG1 x hm with h' | h'
    · have := (h.gl x h').2; omega
    · omega
  refine ⟨hp4, fun wz hz => ⟨⟨ha4.turn hz (fun g hg hm => h7 g (by simpa using hm) hg), hS.turn hz (fun x hx => hpG x (by simpa using hx)), fun x hx => ⟨?_, Nat.lt_of_lt_of_le (hG2 x hx) hz.size⟩, fun g hg hm => ?_, ?_, ?_, rfl⟩, hO.turn hz (fun g hg hm => ?_)⟩⟩
  · rcases hG1 x hx with h' | h'
    · exact (h.gl x h').1
    · have := h8.size; omega
  · rcases hG1 g hm with h' | h'
    · exact h6 g hg h'
    · have := (h5.lt hg).2; omega
  · refine below_turn (below_turn h8 hT (fun t ht => (h.gl t ht).1) h8.size) hz (fun t ht => ?_) (by have := h8.size; omega)
    have a1 := (h2.lt (show _ = some t by simpa using ht)).1
    have := h.old.size
    omega
  · have := h.len
    rw [List.length_append]
    omega
  · have a1 := (hO.lt hg).1
    have a2 := (h2.lt (show _ = some g by simpa using hm)).2
    omega
end Go.Proofs.Ytiocmebcbhbcmaa
