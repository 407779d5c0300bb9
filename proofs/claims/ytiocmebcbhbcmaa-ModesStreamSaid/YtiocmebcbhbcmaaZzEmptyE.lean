/-
  Modes, the document's answer: Ready, Holds.
  Modes: what has come out, plainly: how much it is, and that the document's answer at the front says the same.
  Modes, the document's answer: Front.
  A slice of slices of bytes that came in: rows of bytes; a row of no room may lie anywhere.
  Rows of no room, wherever they lie: Short, append.
-/
import Derived.Test.YtiocmebcbhbcmaaZzMr14
import Derived.Test.YtiocmebcbhbcmaaZzMr15
import Derived.Test.YtiocmebcbhbcmaaZzMw5
import Derived.Test.YtiocmebcbhbcmaaZzMo12
import Derived.Deep.Matrix
import Derived.Test.YtiocmebcbhbcmaaZzReg
import Derived.Test.YtiocmebcbhbcmaaZzAesQ
namespace Go.Proofs.Ytiocmebcbhbcmaa
set_option maxRecDepth 100000
open Go.RowKit

/-- How many bytes have come out when n came. -/
def readyF (M : Nat) (enc : Bool) (n : Nat) : Nat :=
  if M = 4 then n else if M = 5 then (if enc then n else 0) else if M = 3 ∧ enc = false then (n - 1) / 16 * 16 else n / 16 * 16
theorem ready_waits (s : PS) (n : Nat) : readyF s.mode s.enc n + s.waits n = n := by
  unfold readyF PS.waits PS.nb PS.keep
  split
  · omega
  · split
    · split <;> omega
    · split <;> omega
set_option maxHeartbeats 2000000 in
theorem rready_any (M : Nat) (enc : Bool) (n : Nat) (w : World) (hM : 1 ≤ M ∧ M ≤ 5) (hn : n ≤ 1000000) :
    Calls Try.prog 44 #[.int .i64 (M : Int), .bool enc, .int .i64 (n : Int)] w fun e w' => e = .returned (.int .i64 (readyF M enc n : Int)) ∧ w = w' := by
  obtain ⟨q, hq⟩ : ∃ q, n / 16 = q := ⟨_, rfl⟩
  have hq1 : Int.tdiv (n : Int) 16 = (q : Int) := by rw [Int.tdiv_eq_ediv_of_nonneg (by omega)]; omega
  have hq2 : (n : Int) / 16 = (q : Int) := by omega
  obtain ⟨n5, hn5⟩ : ∃ n5, q * 16 = n5 := ⟨_, rfl⟩
  have hn5i : (q : Int) * 16 = (n5 : Int) := by omega
  have hn5w : IntKind.i64.wrap (n5 : Int) = (n5 : Int) := IntWalk.i64_in _ (by omega)
  have HQ := Lib.hid (And.intro hq hn5)
  have hcase : M = 1 ∨ M = 2 ∨ M = 3 ∨ M = 4 ∨ M = 5 := by omega
  clear hM hq hn5
  have e1 : ∀ K, K = 1 ∨ K = 2 → readyF K enc n = n5 := fun K hK => by
    unfold readyF
    rw [if_neg (by omega), if_neg (by omega), if_neg (by omega), HQ.out.1, HQ.out.2]
  have e3 : enc = true → readyF 3 enc n = n5 := fun he => by
    subst he
    unfold readyF
    rw [if_neg (by omega), if_neg (by omega), if_neg (by simp), HQ.out.1, HQ.out.2]
  have e3f : enc = false → readyF 3 enc n = (n - 1) / 16 * 16 := fun he => by
    subst he
    unfold readyF
    rw [if_neg (by omega), if_neg (by omega), if_pos ⟨rfl, rfl⟩]
  have e4 : readyF 4 enc n = n := by unfold readyF; rw [if_pos rfl]
  have e5 : readyF 5 enc n = if enc then n else 0 := by unfold readyF; rw [if_neg (by omega), if_pos rfl]
  have HE := Lib.hid (And.intro e1 (And.intro e3 (And.intro e3f (And.intro e4 e5))))
  clear e1 e3 e3f e4 e5
  rcases hcase with rfl | rfl | rfl | rfl | rfl
  · rw [HE.out.1 1 (.inl rfl)]
    cases enc
    all_goals
      go_enter Try.func44, Try.ntmps44
      go_wp2_with fail
      go_ret
      exact ⟨rfl, rfl⟩
  · rw [HE.out.1 2 (.inr rfl)]
    cases enc
    all_goals
      go_enter Try.func44, Try.ntmps44
      go_wp2_with fail
      go_ret
      exact ⟨rfl, rfl⟩
  · cases enc with
    | true =>
      rw [HE.out.2.1 rfl]
      go_enter Try.func44, Try.ntmps44
      go_wp2_with fail
      go_ret
      exact ⟨rfl, rfl⟩
    | false =>
      rw [HE.out.2.2.1 rfl]
      by_cases h0 : n = 0
      · subst h0
        go_enter Try.func44, Try.ntmps44
        go_wp2_with fail
        go_ret
        exact ⟨rfl, rfl⟩
      · have hb : ((n : Int) == 0) = false := by simp; omega
        obtain ⟨m, hm⟩ : ∃ m, n - 1 = m := ⟨_, rfl⟩
        have hmi : (n : Int) - 1 = (m : Int) := by omega
        have hmw : IntKind.i64.wrap (m : Int) = (m : Int) := IntWalk.i64_in _ (by omega)
        obtain ⟨r, hr⟩ : ∃ r, m / 16 = r := ⟨_, rfl⟩
        have hr1 : Int.tdiv (m : Int) 16 = (r : Int) := by rw [Int.tdiv_eq_ediv_of_nonneg (by omega)]; omega
        have hr2 : (m : Int) / 16 = (r : Int) := by omega
        obtain ⟨t, ht⟩ : ∃ t, r * 16 = t := ⟨_, rfl⟩
        have hti : (r : Int) * 16 = (t : Int) := by omega
        have htw : IntKind.i64.wrap (t : Int) = (t : Int) := IntWalk.i64_in _ (by omega)
        rw [hm, hr, ht]
        clear h0 hm hr ht HE HQ
        go_enter Try.func44, Try.ntmps44
        go_wp2_with fail
        go_ret
        exact ⟨rfl, rfl⟩
  · rw [HE.out.2.2.2.1]
    cases enc
    all_goals
      go_enter Try.func44, Try.ntmps44
      go_wp2_with fail
      go_ret
      exact ⟨rfl, rfl⟩
  · rw [HE.out.2.2.2.2]
    cases enc with
    | true =>
      rw [if_pos rfl]
      go_enter Try.func44, Try.ntmps44
      go_wp2_with fail
      go_ret
      exact ⟨rfl, rfl⟩
    | false =>
      rw [if_neg (by decide)]
      go_enter Try.func44, Try.ntmps44
      go_wp2_with fail
      go_ret
      exact ⟨rfl, rfl⟩
set_option maxHeartbeats 2000000 in
theorem rholds_any (s : PS) (n : Nat) (w : World) (hM : 1 ≤ s.mode ∧ s.mode ≤ 5) (hn : n ≤ 1000000) :
    Calls Try.prog 20 #[.int .i64 (s.mode : Int), .bool s.enc, .int .i64 (n : Int)] w fun e w' => e = .returned (.int .i64 (s.waits n : Int)) ∧ w = w' := by
  have hcall := rready_any s.mode s.enc n w hM hn
  have hsum := ready_waits s n
  obtain ⟨M, hMe⟩ : ∃ M, s.mode = M := ⟨_, rfl⟩
  obtain ⟨b, hbe⟩ : ∃ b, s.enc = b := ⟨_, rfl⟩
  obtain ⟨v, hv⟩ : ∃ v, s.waits n = v := ⟨_, rfl⟩
  have h5 : M = 5 → b = true → v = 0 := fun h1 h2 => by
    rw [← hv]; unfold PS.waits; rw [hMe, hbe, if_neg (by omega), if_pos h1, if_pos h2]
  rw [hMe, hbe, hv] at hsum
  rw [hMe, hbe] at hcall
  rw [hMe] at hM
  rw [hMe, hbe, hv]
  obtain ⟨r, hr⟩ : ∃ r, readyF M b n = r := ⟨_, rfl⟩
  rw [hr] at hcall hsum
  have hd : (n : Int) - (r : Int) = (v : Int) := by omega
  have hvw : IntKind.i64.wrap (v : Int) = (v : Int) := IntWalk.i64_in _ (by omega)
  have HC := Lib.hid hcall
  clear hcall hsum hMe hbe hv hr
  by_cases hm5 : M = 5
  · subst hm5
    cases b with
    | true =>
      have hv0 := h5 rfl rfl
      subst hv0
      clear h5 hd hvw
      go_enter Try.func20, Try.ntmps20
      go_wp2_with fail
      go_ret
      exact ⟨rfl, rfl⟩
    | false =>
      clear h5
      go_enter Try.func20, Try.ntmps20
      go_wp2_with fail
      refine HC.out.mono ?_
      rintro e w1 ⟨rfl, rfl⟩
      go_wp2_with fail
      go_ret
      exact ⟨rfl, rfl⟩
  · have hb5 : ((M : Int) == 5) = false := by simp; omega
    clear h5 hm5
    go_enter Try.func20, Try.ntmps20
    go_wp2_with fail
    refine HC.out.mono ?_
    rintro e w1 ⟨rfl, rfl⟩
    go_wp2_with fail
    go_ret
    exact ⟨rfl, rfl⟩
end Go.Proofs.Ytiocmebcbhbcmaa
namespace Go.Proofs.Ytiocmebcbhbcmaa
set_option maxRecDepth 100000
open Go.RowKit

theorem blkF_len (mode : Nat) (enc : Bool) (E D : List UInt8 → List UInt8) (hE : ∀ l, l.length = 16 → (E l).length = 16) (hD : ∀ l, l.length = 16 → (D l).length = 16) (iv b : List UInt8) (hi : mode ≠ 1 → iv.length = 16) (hb : b.length = 16) :
    (blkF mode enc E D iv b).1.length = 16 ∧ (mode ≠ 1 → (blkF mode enc E D iv b).2.length = 16) := by
  unfold blkF
  by_cases hm : mode = 1
  · rw [if_pos hm]
    refine ⟨?_, fun h => absurd hm h⟩
    cases enc
    · exact hD b hb
    · exact hE b hb
  · rw [if_neg hm]
    have hi := hi hm
    cases enc
    · exact ⟨xorL_len _ _ 16 (hD b hb) hi, fun _ => hb⟩
    · have := hE (xorL b iv) (xorL_len _ _ 16 hb hi)
      exact ⟨this, fun _ => this⟩
theorem blkN_len (mode : Nat) (enc : Bool) (E D : List UInt8 → List UInt8) (hE : ∀ l, l.length = 16 → (E l).length = 16) (hD : ∀ l, l.length = 16 → (D l).length = 16) : ∀ (q : Nat) (iv l : List UInt8), (mode ≠ 1 → iv.length = 16) → 16 * q ≤ l.length → (blkN mode enc E D q iv l).1.length = 16 * q
  | 0, _, _, _, _ => rfl
  | q + 1, iv, l, hi, hl => by
    have hb : (l.take 16).length = 16 := by rw [List.length_take]; omega
    obtain ⟨h1, h2⟩ := blkF_len mode enc E D hE hD iv (l.take 16) hi hb
    have k1 := blkN_len mode enc E D hE hD q (blkF mode enc E D iv (l.take 16)).2 (l.drop 16) h2 (by rw [List.length_drop]; omega)
    simp only [blkN]
    rw [List.length_append, h1, k1]; omega
theorem blkN_take (mode : Nat) (enc : Bool) (E D : List UInt8 → List UInt8) (q r : Nat) (p b : List UInt8) (hr : r = 16 * q) (hb : r ≤ b.length) : blkN mode enc E D q p (b.take r) = blkN mode enc E D q p b := by
  conv => rhs; rw [← List.take_append_drop r b]
  exact (blkN_front mode enc E D q p (b.take r) (b.drop r) (by rw [List.length_take]; omega)).symm
theorem encdec_len (k : List UInt8) (hk : keyOk k) (l : List UInt8) (hl : l.length = 16) : (encL (rks k) ((rks k).length / 16) l).length = 16 ∧ (decL (rks k) ((rks k).length / 16) l).length = 16 := by
  have h1 := rks_len k hk
  have h2 : (rks k).length / 16 = k.length / 4 + 7 := by rw [h1]; omega
  rw [h2]
  exact ⟨enc_ne _ _ l hl h1, dec_ne _ _ l hl h1 (by omega)⟩
theorem ready_12 (M : Nat) (enc : Bool) (n : Nat) (h : ¬ M = 4) (h5 : ¬ M = 5) (h3 : ¬ (M = 3 ∧ enc = false)) : readyF M enc n = n / 16 * 16 := by
  unfold readyF; rw [if_neg h, if_neg h5, if_neg h3]
theorem front_len (M : Nat) (enc : Bool) (k p b : List UInt8) (hk : keyOk k) (hp : parOk M p) (h1 : 1 ≤ M) (h5 : M ≤ 5) : ((PSof M enc k p).front b).length = readyF M enc b.length := by
  have hE := fun l hl => (encdec_len k hk l hl).1
  have hD := fun l hl => (encdec_len k hk l hl).2
  have hEn : ∀ l : List UInt8, l.length = 16 → (encL (rks k) ((rks k).length / 16)) l ≠ [] := fun l hl e => by
    have := hE l hl
    rw [e] at this
    cases this
  by_cases h4 : M = 4
  · subst h4
    have hc := (PSof 4 enc k p).c0_len hp (.inl rfl)
    show (cnt1 _ _ b [] _).1.length = _
    exact (cnt1_len _ _ hEn b [] _ hc).1
  · by_cases h55 : M = 5
    · subst h55
      have hc := (PSof 5 enc k p).c0_len hp (.inr rfl)
      cases enc
      · rfl
      · show (cnt1 _ _ b [] _).1.length = _
        exact (cnt1_len _ _ hEn b [] _ hc).1
    · have hpl : M ≠ 1 → p.length = 16 := fun hm => by unfold parOk at hp; rw [if_neg hm, if_neg h4, if_neg h55] at hp; exact hp
      rw [PS.front_blk _ h4 h55]
      have hb := (PSof M enc k p).nb_le b.length
      have h := blkN_len M enc _ _ hE hD ((PSof M enc k p).nb b.length) p b hpl hb
      refine h.trans ?_
      by_cases h3 : M = 3 ∧ enc = false
      · obtain ⟨rfl, rfl⟩ := h3
        show 16 * ((b.length - 1) / 16) = (b.length - 1) / 16 * 16
        omega
      · rw [ready_12 M enc _ h4 h55 h3, PS.nb_of _ h3]
        omega
/-- What has come out is what comes out of it at once. -/
theorem front_ref12 (M : Nat) (enc : Bool) (k p b : List UInt8) (h12 : M = 1 ∨ M = 2) :
    (refM M enc (encL (rks k) ((rks k).length / 16)) (decL (rks k) ((rks k).length / 16)) p (b.take (readyF M enc b.length))).1 = (PSof M enc k p).front b := by
  rw [PS.front_blk _ (show ¬ M = 4 by omega) (show ¬ M = 5 by omega), PS.nb_of _ (show ¬ (M = 3 ∧ enc = false) from fun h => by omega), ready_12 M enc _ (by omega) (by omega) (fun h => by omega)]
  have hl : (b.take (b.length / 16 * 16)).length = b.length / 16 * 16 := by rw [List.length_take]; omega
  unfold refM
  rw [if_pos h12, hl, show b.length / 16 * 16 / 16 = b.length / 16 by omega]
  show (blkN M enc _ _ (b.length / 16) p (b.take (b.length / 16 * 16))).1 = _
  rw [blkN_take M enc _ _ _ _ p b (by omega) (by omega)]
  rfl
theorem front_ref3 (enc : Bool) (k p b : List UInt8) :
    (refM 2 enc (encL (rks k) ((rks k).length / 16)) (decL (rks k) ((rks k).length / 16)) p (b.take (readyF 3 enc b.length))).1 = (PSof 3 enc k p).front b := by
  have hr : readyF 3 enc b.length = 16 * (PSof 3 enc k p).nb b.length := by
    have h := ready_waits (PSof 3 enc k p) b.length
    have hle := (PSof 3 enc k p).nb_le b.length
    have hw : (PSof 3 enc k p).waits b.length = b.length - 16 * (PSof 3 enc k p).nb b.length := rfl
    have h' : readyF 3 enc b.length + (PSof 3 enc k p).waits b.length = b.length := h
    omega
  have hle := (PSof 3 enc k p).nb_le b.length
  rw [PS.front_blk _ (show ¬ (3 : Nat) = 4 by decide) (show ¬ (3 : Nat) = 5 by decide), hr]
  obtain ⟨q, hq⟩ : ∃ q, (PSof 3 enc k p).nb b.length = q := ⟨_, rfl⟩
  rw [hq] at hle ⊢
  have hl : (b.take (16 * q)).length = 16 * q := by rw [List.length_take]; omega
  unfold refM
  rw [if_pos (.inr rfl), hl, show 16 * q / 16 = q by omega]
  show (blkN 2 enc _ _ q p (b.take (16 * q))).1 = (blkN 3 enc _ _ q p b).1
  rw [blkN_take 2 enc _ _ _ _ p b rfl hle, blkN_23]
  rfl
theorem front_ref4 (enc : Bool) (k p b : List UInt8) :
    (refM 4 enc (encL (rks k) ((rks k).length / 16)) (decL (rks k) ((rks k).length / 16)) p b).1 = (PSof 4 enc k p).front b := rfl
theorem front_ref5 (k p b : List UInt8) : gcmO (encL (rks k) ((rks k).length / 16)) p b = (PSof 5 true k p).front b := rfl
end Go.Proofs.Ytiocmebcbhbcmaa
namespace Go.Proofs.Ytiocmebcbhbcmaa
set_option maxRecDepth 100000
open Go.RowKit

/-- What Front gives. -/
def FrRes (w : World) (l : List UInt8) (e : Ending) (w' : World) : Prop := ∃ A n c, e = .returned (.slice A n c) ∧ Rd w' A n c l ∧ Old w w'
set_option maxHeartbeats 4000000 in
theorem rfront_any (M : Nat) (enc : Bool) (A P C : Option Addr) (mk ck mp cp n cb : Nat) (k p b : List UInt8) (w : World) (hk : Rd w A mk ck k) (hp : Rd w P mp cp p) (hb : Rd w C n cb b) (hko : keyOk k) (hpo : parOk M p) (h1 : 1 ≤ M) (h5 : M ≤ 5) (hmp : mp ≤ 40000) (hn : n ≤ 40000) :
    Calls Try.prog 18 #[.int .i64 (M : Int), .bool enc, .slice A mk ck, .slice P mp cp, .slice C n cb] w (FrRes w ((PSof M enc k p).front b)) := by
  have hbl := hb.1
  have hlen := front_len M enc k p b hko hpo h1 h5
  rw [← hbl] at hlen
  have hready := rready_any M enc n w ⟨h1, h5⟩ (by omega)
  have hrn : readyF M enc n ≤ n := by have := ready_waits (PSof M enc k p) n; have h : readyF M enc n + (PSof M enc k p).waits n = n := this; omega
  obtain ⟨r, hr⟩ : ∃ r, readyF M enc n = r := ⟨_, rfl⟩
  rw [hr] at hready hlen hrn
  obtain ⟨F, hF⟩ : ∃ F, (PSof M enc k p).front b = F := ⟨_, rfl⟩
  rw [hF] at hlen ⊢
  by_cases h0 : r = 0
  · have hr0 : ((r : Int) == 0) = true := by rw [h0]; rfl
    have hF0 : F = [] := List.eq_nil_of_length_eq_zero (hlen.trans h0)
    subst hF0
    have HH := Lib.hid hready
    clear hready hr hF hlen hk hp hb hko hpo hrn h0 hbl
    go_enter Try.func18, Try.ntmps18
    go_wp2_with fail
    refine HH.out.mono ?_
    rintro e w1 ⟨rfl, rfl⟩
    go_wp2_with fail
    go_ret
    exact ⟨none, 0, 0, rfl, Rd.nil _, Old.refl _⟩
  · have hr0 : ((r : Int) == 0) = false := by simpa using h0
    have hcb := hb.2.1
    have hsl := slice_to C n cb r hb.spot (by omega)
    have hfr := hb.front (k := r) hrn
    have hFr : F.take r = F := List.take_of_length_le (by omega)
    have hmode : M = 1 ∨ M = 2 ∨ M = 3 ∨ M = 4 ∨ M = 5 := by omega
    rcases hmode with rfl | rfl | rfl | rfl | rfl
    · rw [show ((1 : Nat) : Int) = 1 from rfl] at hready ⊢
      have hcall := rall_any 1 enc A P C mk ck mp cp r cb k p (b.take r) w hk hp hfr hko hpo (by omega) (by omega) hmp (by omega)
      have href := front_ref12 1 enc k p b (.inl rfl)
      rw [← hbl, hr, hF] at href
      obtain ⟨G, hG⟩ : ∃ G, refM 1 enc (encL (rks k) ((rks k).length / 16)) (decL (rks k) ((rks k).length / 16)) p (b.take r) = G := ⟨_, rfl⟩
      rw [hG, show ((1 : Nat) : Int) = 1 from rfl] at hcall
      rw [hG] at href
      obtain ⟨G1, gv⟩ := G
      simp only at href
      subst href
      have HH := Lib.hid (And.intro hready (And.intro hcall (And.intro hlen hFr)))
      clear hready hcall hr hF hlen hk hp hb hko hpo hrn hfr hG hFr hbl
      go_enter Try.func18, Try.ntmps18
      go_wp2_with fail
      refine HH.out.1.mono ?_
      rintro e w1 ⟨rfl, rfl⟩
      go_wp2_with fail
      refine HH.out.2.1.mono ?_
      rintro e w4 ⟨A4, n4, c4, rfl, hR4, hB4⟩
      have hn4 : n4 = r := by have h1 := hR4.1; have h2 := HH.out.2.2.1; simp only at h1; omega
      subst hn4
      have hc4 := hR4.2.1
      have hsl4 := slice_to A4 n4 c4 n4 hR4.spot (by omega)
      have H4 := Lib.hid (And.intro hR4 hB4)
      clear hR4 hB4
      go_wp2_with fail
      go_ret
      exact ⟨_, _, _, rfl, H4.out.1, H4.out.2⟩
    · rw [show ((2 : Nat) : Int) = 2 from rfl] at hready ⊢
      have hcall := rall_any 2 enc A P C mk ck mp cp r cb k p (b.take r) w hk hp hfr hko hpo (by omega) (by omega) hmp (by omega)
      have href := front_ref12 2 enc k p b (.inr rfl)
      rw [← hbl, hr, hF] at href
      obtain ⟨G, hG⟩ : ∃ G, refM 2 enc (encL (rks k) ((rks k).length / 16)) (decL (rks k) ((rks k).length / 16)) p (b.take r) = G := ⟨_, rfl⟩
      rw [hG, show ((2 : Nat) : Int) = 2 from rfl] at hcall
      rw [hG] at href
      obtain ⟨G1, gv⟩ := G
      simp only at href
      subst href
      have HH := Lib.hid (And.intro hready (And.intro hcall (And.intro hlen hFr)))
      clear hready hcall hr hF hlen hk hp hb hko hpo hrn hfr hG hFr hbl
      go_enter Try.func18, Try.ntmps18
      go_wp2_with fail
      refine HH.out.1.mono ?_
      rintro e w1 ⟨rfl, rfl⟩
      go_wp2_with fail
      refine HH.out.2.1.mono ?_
      rintro e w4 ⟨A4, n4, c4, rfl, hR4, hB4⟩
      have hn4 : n4 = r := by have h1 := hR4.1; have h2 := HH.out.2.2.1; simp only at h1; omega
      subst hn4
      have hc4 := hR4.2.1
      have hsl4 := slice_to A4 n4 c4 n4 hR4.spot (by omega)
      have H4 := Lib.hid (And.intro hR4 hB4)
      clear hR4 hB4
      go_wp2_with fail
      go_ret
      exact ⟨_, _, _, rfl, H4.out.1, H4.out.2⟩
    · rw [show ((3 : Nat) : Int) = 3 from rfl] at hready ⊢
      have hcall := rall_any 2 enc A P C mk ck mp cp r cb k p (b.take r) w hk hp hfr hko (show parOk 2 p from hpo) (by omega) (by omega) hmp (by omega)
      have href := front_ref3 enc k p b
      rw [← hbl, hr, hF] at href
      obtain ⟨G, hG⟩ : ∃ G, refM 2 enc (encL (rks k) ((rks k).length / 16)) (decL (rks k) ((rks k).length / 16)) p (b.take r) = G := ⟨_, rfl⟩
      rw [hG, show ((2 : Nat) : Int) = 2 from rfl] at hcall
      rw [hG] at href
      obtain ⟨G1, gv⟩ := G
      simp only at href
      subst href
      have HH := Lib.hid (And.intro hready (And.intro hcall (And.intro hlen hFr)))
      clear hready hcall hr hF hlen hk hp hb hko hpo hrn hfr hG hFr hbl
      go_enter Try.func18, Try.ntmps18
      go_wp2_with fail
      refine HH.out.1.mono ?_
      rintro e w1 ⟨rfl, rfl⟩
      go_wp2_with fail
      refine HH.out.2.1.mono ?_
      rintro e w4 ⟨A4, n4, c4, rfl, hR4, hB4⟩
      have hn4 : n4 = r := by have h1 := hR4.1; have h2 := HH.out.2.2.1; simp only at h1; omega
      subst hn4
      have hc4 := hR4.2.1
      have hsl4 := slice_to A4 n4 c4 n4 hR4.spot (by omega)
      have H4 := Lib.hid (And.intro hR4 hB4)
      clear hR4 hB4
      go_wp2_with fail
      go_ret
      exact ⟨_, _, _, rfl, H4.out.1, H4.out.2⟩
    · rw [show ((4 : Nat) : Int) = 4 from rfl] at hready ⊢
      have hcall := rall_any 4 enc A P C mk ck mp cp n cb k p b w hk hp hb hko hpo (by omega) (by omega) hmp (by omega)
      have href := front_ref4 enc k p b
      rw [hF] at href
      obtain ⟨G, hG⟩ : ∃ G, refM 4 enc (encL (rks k) ((rks k).length / 16)) (decL (rks k) ((rks k).length / 16)) p b = G := ⟨_, rfl⟩
      rw [hG, show ((4 : Nat) : Int) = 4 from rfl] at hcall
      rw [hG] at href
      obtain ⟨G1, gv⟩ := G
      simp only at href
      subst href
      have HH := Lib.hid (And.intro hready (And.intro hcall (And.intro hlen hFr)))
      clear hready hcall hr hF hlen hk hp hb hko hpo hrn hfr hG hFr hbl
      go_enter Try.func18, Try.ntmps18
      go_wp2_with fail
      refine HH.out.1.mono ?_
      rintro e w1 ⟨rfl, rfl⟩
      go_wp2_with fail
      refine HH.out.2.1.mono ?_
      rintro e w4 ⟨A4, n4, c4, rfl, hR4, hB4⟩
      have hn4 : n4 = r := by have h1 := hR4.1; have h2 := HH.out.2.2.1; simp only at h1; omega
      subst hn4
      have hc4 := hR4.2.1
      have hsl4 := slice_to A4 n4 c4 n4 hR4.spot (by omega)
      have H4 := Lib.hid (And.intro hR4 hB4)
      clear hR4 hB4
      go_wp2_with fail
      go_ret
      exact ⟨_, _, _, rfl, H4.out.1, H4.out.2⟩
    · rw [show ((5 : Nat) : Int) = 5 from rfl] at hready ⊢
      cases enc
      · exact absurd hr.symm h0
      · have hg : gcmOk p := hpo
        have hF5 := front_ref5 k p b
        rw [hF] at hF5
        have hcall := rnew_any A mk ck k w hk hko
        have hEl : ∀ l, l.length = 16 → (encL (rks k) ((rks k).length / 16) l).length = 16 := fun l hl => (encdec_len k hko l hl).1
        have HH := Lib.hid (And.intro hready (And.intro hcall (And.intro hp (And.intro hb (And.intro hg (And.intro hF5 hEl))))))
        clear hready hcall hr hF hlen hk hp hb hko hpo hrn hfr hg hF5 hFr hcb hEl hbl
        go_enter Try.func18, Try.ntmps18
        go_wp2_with fail
        refine HH.out.1.mono ?_
        rintro e w1 ⟨rfl, rfl⟩
        go_wp2_with fail
        refine HH.out.2.1.mono ?_
        rintro e w2 ⟨c, kb, R, cap, g1, g2, rfl, hC, hB⟩
        have hR : (rks k).length / 16 = R := by have : (rks k).length = 16 * R := hC.2.2.1; omega
        have hF5 := HH.out.2.2.2.2.2.1
        have hEl := HH.out.2.2.2.2.2.2
        rw [hR] at hF5 hEl
        have hen := REn.of hC
        obtain ⟨E, hE⟩ : ∃ E, encL (rks k) R = E := ⟨_, rfl⟩
        obtain ⟨D, hD⟩ : ∃ D, decL (rks k) R = D := ⟨_, rfl⟩
        rw [hE] at hF5 hEl hen
        rw [hD] at hen
        have H1 := Lib.hid (And.intro hen (And.intro hB (And.intro hF5 hEl)))
        clear hC hen hE hD hR hB hF5 hEl
        go_wp2_with (go_at_call 37; refine (rgcm_any c true E D P C mp cp n cb p b w2 H1.out.1 H1.out.2.2.2 (HH.out.2.2.1.below H1.out.2.1) HH.out.2.2.2.2.1 hmp (HH.out.2.2.2.1.below H1.out.2.1) hn).mono ?_; rintro e w4 ⟨A4, n4, c4, A5, c5, rfl, hO4, hR5, hd5, hB4⟩; have H4 := Lib.hid (And.intro hO4 hB4); clear hO4 hR5 hd5 hB4)
        go_ret
        rw [← H1.out.2.2.1]
        exact ⟨_, _, _, rfl, H4.out.1.rd, Old.trans H1.out.2.1 H4.out.2⟩
end Go.Proofs.Ytiocmebcbhbcmaa
namespace Go.Proofs.Ytiocmebcbhbcmaa
set_option maxRecDepth 100000
open Go.RowKit Go.ChangeShapes Go.WideShapes Go.ChangeAt

/-- One row: read, or of no room. -/
def RdE (w : World) (A : Option Addr) (m c : Nat) (l : List UInt8) : Prop := Rd w A m c l ∨ (m = 0 ∧ c = 0 ∧ l = [])
def RowsAt (w : World) (A : Option Addr) (m : Nat) (ls : List (List UInt8)) : Prop :=
  ls.length = m ∧ (m = 0 ∨ ∃ b off, A = some ⟨b, off, none⟩ ∧ b < w.heap.size ∧ ∀ (j : Nat) (l : List UInt8), ls[j]? = some l → ∃ Aj mj cj, w.cell? ⟨b, off + j, none⟩ = some (.slice Aj mj cj) ∧ RdE w Aj mj cj l)
theorem RdE.below {w w' : World} {A : Option Addr} {m c : Nat} {l : List UInt8} (h : RdE w A m c l) (hb : Old w w') : RdE w' A m c l := h.imp (fun h => h.below hb) id
section
variable {H : Type} {enc : TypeId × Value → H}
theorem open_rows {W : World} {base : Nat} {v : Value} {d : DataW H} {p : List MemPlace} (hval : Value.okWide Try.prog W .any base 30 v) (h : DataW.Trod enc Try.prog W 0 (fun _ => true) true 30 v d p) :
    ∃ A m c ls, v = .slice A m c ∧ m ≤ maxLen ∧ RowsAt W A m ls := by
  have hval' := hval
  obtain ⟨a1, len, cap, rfl⟩ := okWide_slice Try.underlying30 hval
  obtain ⟨fuel, hf⟩ := h
  rcases Deep.open_int_rows Try.underlying30 Try.underlying22 Try.underlying5 (show Try.prog.cellsOf 22 = 1 by kernel_rfl) (show Try.prog.cellsOf 5 = 1 by kernel_rfl) hf with ⟨hcs, hx⟩ | ⟨a, len', cap', A, L, C, Z, hcs, _, hl, hm, hx, hr⟩
  · simp [Value.cells] at hcs
    obtain ⟨rfl, rfl, rfl⟩ := hcs
    exact ⟨_, _, _, [], rfl, Nat.zero_le _, rfl, .inl rfl⟩
  · simp [Value.cells] at hcs
    obtain ⟨rfl, rfl, rfl⟩ := hcs
    unfold Value.okWide Cell.okWide Cell.ok at hval'
    rw [Try.underlying30] at hval'
    obtain ⟨_, _, _, hspot, row, cells, hsh, _⟩ := hval'
    have hlt : a.block < W.heap.size := by
      unfold World.shape? at hsh
      rcases Nat.lt_or_ge a.block W.heap.size with h | h
      · exact h
      · rw [Array.getElem?_eq_none h] at hsh; cases hsh
    obtain ⟨ab, ao, spot⟩ := a
    simp only at hspot hlt
    subst hspot
    refine ⟨_, len, cap, (List.range len).map fun r => ((Z r).take (L r)).map fun n => UInt8.ofNat n.toNat, rfl, by omega, by simp, .inr ⟨ab, ao, rfl, hlt, fun j l hj => ?_⟩⟩
    have hj' : j < len := by
      have := (List.getElem?_eq_some_iff.1 hj).1
      simpa using this
    rw [List.getElem?_map, List.getElem?_range hj'] at hj
    simp only [Option.map_some, Option.some.injEq] at hj
    subst hj
    obtain ⟨hc, h1, h2, h3, h4, h5, h6⟩ := hr j (by omega)
    rw [Addr.add_lit] at hc
    refine ⟨_, _, _, hc, ?_⟩
    rcases Nat.eq_zero_or_pos (C j) with hz | hz
    · exact .inr ⟨by omega, hz, by rw [show L j = 0 by omega]; rfl⟩
    · refine .inl ?_
      obtain ⟨a', ha'⟩ : ∃ a', A j = some a' := by
        cases hA : A j with
        | none => have := h5 hA; omega
        | some a' => exact ⟨a', rfl⟩
      obtain ⟨_, h7⟩ := h6 a' ha'
      have h80 := h7 0 hz
      rw [show a'.add 0 = a' from rfl] at h80
      obtain ⟨ab2, ao2, sp2⟩ := a'
      have hsp : sp2 = none ∧ ab2 < W.heap.size := by
        unfold World.cell? at h80
        simp only at h80
        split at h80
        · rename_i cs t fr hh
          refine ⟨?_, (Array.getElem?_eq_some_iff.1 hh).1⟩
          cases sp2 with
          | none => rfl
          | some s => simp at h80
        · cases h80
      obtain ⟨rfl, hlt2⟩ := hsp
      rw [ha']
      refine ⟨by simp; omega, h1, h2, .inr ⟨ab2, ao2, rfl, hlt2, fun k x hk => ?_⟩⟩
      have hk' : k < L j := by
        have := (List.getElem?_eq_some_iff.1 hk).1
        simp at this; omega
      have hc := h7 k (by omega)
      rw [Addr.add_lit] at hc
      rw [hc]
      have e : (Z j)[k]? = some ((Z j).getD k 0) := by simp [List.getD, List.getElem?_eq_getElem (show k < (Z j).length by omega)]
      rw [List.getElem?_map, List.getElem?_take, if_pos hk', e] at hk
      simp only [Option.map_some, Option.some.injEq] at hk
      have hw := h4 ((Z j).getD k 0) (List.mem_of_getElem? e)
      have hrr : 0 ≤ (Z j).getD k 0 ∧ (Z j).getD k 0 ≤ 255 := by
        simpa [Lit.wf, IntKind.min, IntKind.max, IntKind.bits, IntKind.signed] using hw
      subst hk
      unfold B
      rw [UInt8.toNat_ofNat']
      congr 2
      omega
end
end Go.Proofs.Ytiocmebcbhbcmaa
namespace Go.Proofs.Ytiocmebcbhbcmaa
open Go.RowKit

theorem short_E (A : Option Addr) (m c n : Nat) (l : List UInt8) (w : World) (h : RdE w A m c l) (hn : n ≤ 100000) :
    Calls Try.prog 12 #[.slice A m c, .int .i64 n] w fun e w' => e = .returned (.slice A (min m n) c) ∧ w = w' := by
  rcases h with h | ⟨rfl, rfl, rfl⟩
  · exact short_any A m c n l w h hn
  · have h0 : ¬ ((n : Int) < 0) := by omega
    rw [Nat.zero_min]
    go_enter Try.func12, Try.ntmps12
    go_wp2
    go_ret
    exact ⟨rfl, rfl⟩
theorem RdE.short {w : World} {A : Option Addr} {m c n : Nat} {l : List UInt8} (h : RdE w A m c l) : RdE w A (min m n) c (l.take n) := by
  rcases h with h | ⟨rfl, rfl, rfl⟩
  · exact .inl h.short
  · exact .inr ⟨by simp, rfl, by simp⟩
theorem RdE.len {w : World} {A : Option Addr} {m c : Nat} {l : List UInt8} (h : RdE w A m c l) : m = l.length := by
  rcases h with h | ⟨rfl, rfl, rfl⟩
  · exact h.1
  · rfl
theorem run_append_E (w : World) (base : Nat) (ty : TypeId) (v : Value) (l : List UInt8) (hown : Own w base v l) (A : Option Addr) :
    (Builtin.append_ #[22, 22] ty #[v, .slice A 0 0]).run Try.prog w = .ok v w := by
  obtain ⟨i, hi, hz0, hz1, hz2⟩ := info_parts Try.infoU8
  rcases hown.2 with ⟨rfl, _⟩ | ⟨g, cap, cur, rfl, _, _, hnc, _⟩
  · cases A <;> simp [Builtin.append_, run_underlying Try.underlying22, sizeOf, typeInfo, hi, Builtin.lenOf, Builtin.firstCells, loadCells, loadCellsFrom]
  · cases A <;> simp [Builtin.append_, run_underlying Try.underlying22, sizeOf, typeInfo, hi, Builtin.lenOf, Builtin.firstCells, hnc, storeCells, loadCells, loadCellsFrom]
/-- append of a row that is read or has no room. -/
theorem wp_app2E {ops : Array Oper} {rest : List Oper} {o : Oper} {a : Act} {w : World} {Q : Exit → Act → World → Prop} (s x : Operand) (base : Nat) (v : Value) (l : List UInt8) (hown : Own w base v l) (hbase : base ≤ w.heap.size)
    (A : Option Addr) (m c : Nat) (l2 : List UInt8) (hrd : RdE w A m c l2) (hlen : l.length + l2.length ≤ 140737488355328) (hgd : o.guard = none)
    (ho : o.op = .call { callee := .builtin .append, args := #[s, x], argTypes := #[22, 22] }) (hs : a.eval s = v) (hx : a.eval x = .slice A m c)
    (h : ∀ (A' : Option Addr) (n' c' : Nat) (w' : World), (n' : Int) ≤ 9223372036854775807 → Grew base w w' v A' n' c' (l ++ l2) → wpList Try.prog ops Q rest (a.put o.dst (.slice A' n' c')) w') : wpList Try.prog ops Q (o :: rest) a w := by
  rcases hrd with hrd | ⟨rfl, rfl, rfl⟩
  · exact wp_app2 s x base v l hown hbase A m c l2 hrd hlen hgd ho hs hx h
  · refine wpList_plain hgd fun K hK => ?_
    have hrun := run_append_E w base o.type v l hown A
    unfold Oper.wp
    simp only [execOp, ho, resolve, invoke, builtin, Sem.run_bind, Sem.run_pure, Result.andThen_ok, List.map_toArray, List.map_cons, List.map_nil, hs, hx, hrun]
    obtain ⟨A', n', c', rfl, hn, hg⟩ := grew_of (l2 := []) hown hbase (by rw [List.append_nil]; exact hown) ⟨rfl, rfl, rfl, Nat.le_refl _, fun _ _ _ => rfl⟩ (by simp) (.inl rfl)
    exact hK _ _ (h _ _ _ _ hn hg)
end Go.Proofs.Ytiocmebcbhbcmaa
