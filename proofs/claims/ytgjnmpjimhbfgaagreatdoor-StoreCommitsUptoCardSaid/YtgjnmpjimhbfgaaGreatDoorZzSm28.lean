/-
  The law's made: a store behind some commits, and its model.
-/
import Derived.Test.YtgjnmpjimhbfgaaGreatDoorZzSm22
import Derived.Test.YtgjnmpjimhbfgaaGreatDoorZzFs30
namespace Go.Proofs.YtgjnmpjimhbfgaaGreatDoor
set_option maxRecDepth 100000
open Go.RowKit
def CssAt (W : World) (A : Option Addr) (m : Nat) (css : List (List IV)) : Prop :=
 css.length = m ∧ (m = 0 ∨ ∃ b off, A = some ⟨b, off, none⟩ ∧ b < W.heap.size ∧ ∀ (j : Nat) (cs : List IV), css[j]? = some cs → ∃ Aj mj cj, W.cell? ⟨b, off + j, none⟩ = some (.slice Aj mj cj) ∧ (mj : Int) ≤ 9223372036854775807 ∧ CsAt W Aj mj cs)
def ComAll (w : World) (x v d L n S k : Nat) (M : List SRec) (ps : List PC) (e : Ending) (w' : World) : Prop :=
 ∃ n' s' ms' b', e = .returned (.int .i64 (comV M ps (64 * S))) ∧ StAt w' x v d L b' n' S s' ms' (if comV M ps (64 * S) = 0 then schgs M ps else M) ∧ n' ≤ n + 1 ∧ FOk s' (k + 1000) ∧ KAt w' ∧ Turn [x, d, L, v] w w'
theorem stcommit_all {w : World} {x v d L b n S k : Nat} {s : Dsk} {ms : List (List UInt8)} {M : List SRec} (h : StAt w x v d L b n S s ms M) (A : Option Addr) (m c : Nat) (cs : List PC) (hC : ChsAt w A m cs) (hm : m ≤ 4096)
  (hK : KAt w) (hn : n ≤ 99) (hf : FOk s k) (hk : k < 10000) (h0 : 64 ≤ S) (h1 : S ≤ 1000) (hlen : ∀ q ∈ cs, q.l.length ≤ 20000) :
  Calls Tryz.prog 14 #[.pointer (some ⟨x, 0, none⟩), .slice A m c] w (ComAll w x v d L n S k M cs) := by
 have hlm : cs.length = m := hC.rd.1
 have hnl := num_load M
 have hrm := h.room
 have hN : M.length ≤ 90000 := by omega
 have hle : ∀ q ∈ cs, q.l.length ≤ 100000 := fun q hq => by have := hlen q hq; omega
 have hnil : m = 0 → cs = [] := fun e => List.eq_nil_of_length_eq_zero (by omega)
 cases hok : cs.all okC with
 | false =>
  have hcv : comV M cs (64 * S) = 7 := by unfold comV; rw [hok]; rfl
  refine (stcommit_bad x A m c cs w hC hm hok).mono ?_
  rintro e w' ⟨rfl, hO⟩
  exact ⟨n, s, ms, b, by rw [hcv], by rw [hcv, if_neg (by decide)]; exact h.below hO, by omega, hf.mono (by omega), hK.below hO, Turn.of_below _ hO⟩
 | true =>
  by_cases hld : 64 * S < sload (schgs M cs)
  ·have hcv : comV M cs (64 * S) = 49 := by unfold comV; rw [hok, if_pos rfl, if_pos hld]
   have hsl := sload_chgs 20000 cs M hlen
   have hmul : cs.length * (20000 + 8) ≤ 4096 * 20008 := Nat.mul_le_mul (by omega) (Nat.le_refl _)
   have hpos : 0 < m := by
    rcases Nat.eq_zero_or_pos m with e | e
    ·have h2 := hnil e
     subst h2
     exact absurd hld (by rw [show schgs M ([] : List PC) = M from rfl]; omega)
    ·exact e
   refine (stcommit_full h.blk h.map A m c cs hC hpos hm hok hld (by omega) hN hle).mono ?_
   rintro e w' ⟨rfl, hO⟩
   exact ⟨n, s, ms, b, by rw [hcv], by rw [hcv, if_neg (by decide)]; exact h.below hO, by omega, hf.mono (by omega), hK.below hO, Turn.of_below _ hO⟩
  ·have hcv : comV M cs (64 * S) = 0 := by unfold comV; rw [hok, if_pos rfl, if_neg hld]
   rcases Nat.eq_zero_or_pos m with e | e
   ·have h2 := hnil e
    subst h2
    subst e
    refine (stcommit_none x A c w hC).mono ?_
    rintro e w' ⟨rfl, hO⟩
    exact ⟨n, s, ms, b, by rw [hcv], by rw [hcv, if_pos rfl]; exact h.below hO, by omega, hf.mono (by omega), hK.below hO, Turn.of_below _ hO⟩
   ·refine (stcommit_live h A m c cs hC e hm hok (by omega) hK hn hf hk h0 h1 hN hle).mono ?_
    rintro e w' ⟨s', ms', b', rfl, hS, hF, _, hK', hT⟩
    exact ⟨n + 1, s', ms', b', by rw [hcv], by rw [hcv, if_pos rfl]; exact hS, Nat.le_refl _, hF, hK', hT⟩
structure MdS (w wr : World) (S d L x v b n k : Nat) (s : Dsk) (ms : List (List UInt8)) (A : Option Addr) (m c : Nat) (rs : List RcV) : Prop where
 st : StAt wr x v d L b n S s ms (recs rs)
 F : FOk s (1000 * k + 2000)
 K : KAt wr
 M : RcAt wr 0 (.slice A m c) rs
 old : Old w wr
 ld : w.heap.size ≤ d
 lL : w.heap.size ≤ L
 lx : w.heap.size ≤ x
 lv : w.heap.size ≤ v
 nk : n ≤ k + 1
section
variable {w wr : World} {S d L x v b n k : Nat} {s : Dsk} {ms : List (List UInt8)} {A : Option Addr} {m c : Nat} {rs : List RcV}
theorem MdS.below {w' : World} (h : MdS w wr S d L x v b n k s ms A m c rs) (hb : Old wr w') : MdS w w' S d L x v b n k s ms A m c rs :=
 ⟨h.st.below hb, h.F, h.K.below hb, h.M.below hb, Old.trans h.old hb, h.ld, h.lL, h.lx, h.lv, h.nk⟩
theorem MdS.more {k' : Nat} (h : MdS w wr S d L x v b n k s ms A m c rs) (hk : k ≤ k') : MdS w wr S d L x v b n k' s ms A m c rs :=
 ⟨h.st, h.F.mono (by omega), h.K, h.M, h.old, h.ld, h.lL, h.lx, h.lv, by have := h.nk; omega⟩
theorem MdS.types (h : MdS w wr S d L x v b n k s ms A m c rs) : ∀ g ∈ [x, d, L, v], wr.heap.size ≤ g ∨ ∃ t cs, Blk wr g t cs ∧ t ≠ 5 ∧ t ≠ 53 := by
 intro g hg
 obtain ⟨⟨c1, h1⟩, c2, h2⟩ := h.st.mnt.q.D.typed
 right
 rcases List.mem_cons.1 hg with rfl | hg
 ·exact ⟨_, _, h.st.blk, by decide, by decide⟩
 rcases List.mem_cons.1 hg with rfl | hg
 ·exact ⟨_, _, h1, by decide, by decide⟩
 rcases List.mem_cons.1 hg with rfl | hg
 ·exact ⟨_, _, h2, by decide, by decide⟩
 rw [List.mem_singleton] at hg
 subst hg
 exact ⟨_, _, h.st.mnt.q.V, by decide, by decide⟩
theorem MdS.done (h : MdS w wr S d L x v b n k s ms A m c rs) {w' : World} {n' b' : Nat} {s' : Dsk} {ms' : List (List UInt8)} {A' : Option Addr} {m' c' : Nat} {rs' : List RcV} (hM : RcAt wr 0 (.slice A' m' c') rs')
  (hS : StAt w' x v d L b' n' S s' ms' (recs rs')) (hn : n' ≤ n + 1) (hF : FOk s' (1000 * k + 2000 + 1000)) (hK : KAt w') (ht : Turn [x, d, L, v] wr w') : MdS w w' S d L x v b' n' (k + 1) s' ms' A' m' c' rs' :=
 ⟨hS, hF.mono (by omega), hK, hM.turn ht h.types, below_turn h.old ht (by have := h.ld; have := h.lL; have := h.lx; have := h.lv; simp; omega) h.old.size, h.ld, h.lL, h.lx, h.lv, by have := h.nk; omega⟩
end
def MdRes (w : World) (S : Nat) (e : Ending) (w' : World) : Prop := ∃ (d L x v b n : Nat) (s : Dsk) (ms : List (List UInt8)) (A' : Option Addr) (m' c' : Nat) (rs : List RcV),
 e = .returned (.tuple #[.pointer (some ⟨d, 0, none⟩), .pointer (some ⟨x, 0, none⟩), .slice A' m' c', .bool true]) ∧ MdS w w' S d L x v b n 5 s ms A' m' c' rs
theorem IV_len {ps : List PC} {cs : List IV} (h : ps.map PC.ch = (cs.take 12).map IV.ch) : ps.length ≤ 12 ∧ ∀ q ∈ ps, q.l.length ≤ 20000 := by
 constructor
 ·have := congrArg List.length h
  rw [List.length_map, List.length_map, List.length_take] at this
  omega
 ·intro q hq
  have h1 : PC.ch q ∈ (cs.take 12).map IV.ch := by rw [← h]; exact List.mem_map_of_mem hq
  obtain ⟨y, _, hy⟩ := List.mem_map.1 h1
  have h2 : full y.l y.nn = q.l := congrArg (fun z => z.2.2) hy
  rw [← h2, full_len _ _ y.nn_le]
  exact y.nn_le
set_option maxHeartbeats 8000000 in
theorem stmade_any (S : Nat) (A : Option Addr) (N c : Nat) (css : List (List IV)) (w : World) (hK : KAt w) (h0 : 64 ≤ S) (h1 : S ≤ 163) (hc : CssAt w A N css) (hN : (N : Int) ≤ 9223372036854775807) :
  Calls Tryz.prog 26 #[.int .i64 (S : Int), .slice A N c] w (MdRes w S) := by
 have HW := Lib.hid (And.intro hK hc)
 obtain ⟨T, hT⟩ : ∃ T, 64 * S = T := ⟨_, rfl⟩
 have hnew := dk_new S (by omega) (by omega) w
 have HN := Lib.hid (And.intro hT (And.intro h0 h1))
 have e1 : (64 : Int) * (S : Int) = (T : Int) := by omega
 have e1w : IntKind.i64.wrap (T : Int) = (T : Int) := IntWalk.i64_in _ (by omega)
 have e2 : ((T : Int) != (T : Int)) = false := by simp
 have hne := neStore
 obtain ⟨TG, hTG⟩ : ∃ TG : Ending → World → Prop, MdRes w S = TG := ⟨_, rfl⟩
 rw [hTG]
 have HTG := Lib.hid hTG
 clear hK hc hT h0 h1 hTG
 go_enter Tryz.func26, Tryz.ntmps26
 go_wp2_with fail
 refine hnew.mono ?_
 rintro e w2 ⟨d, L, rfl, hD1, hdw, hLw, hO1⟩
 have hfm := stformat_any d L S (Dsk.new S) w2 hD1 (zeroD_new S) (new_n S) HN.out.2.1 (by have := HN.out.2.2; omega) (new_fok S) ⟨rfl, rfl⟩ (HW.out.1.below hO1)
 have H2 := Lib.hid (And.intro hdw (And.intro hLw hO1))
 clear hD1 hdw hLw hO1 hnew
 go_wp2_with fail
 refine hfm.mono ?_
 rintro e w3 ⟨s2, ms2, rfl, hDv2, hV2, hl2, hF2, hK2, hT2⟩
 have hO2 : Old w w3 := below_turn H2.out.2.2 hT2 (by have h1 := H2.out.1; have h2 := H2.out.2.1; simp; omega) H2.out.2.2.size
 have hop := stopen_any hDv2 (by omega) HN.out.2.1 (by have := HN.out.2.2; omega) hV2 Fine.nil Rising.nil (by simp [sload]) (by simp) hK2
 have H3 := Lib.hid (And.intro hF2 (And.intro hK2 hO2))
 clear hfm hDv2 hV2 hl2 hF2 hK2 hT2 hO2
 go_wp2_with fail
 refine hop.mono ?_
 rintro e w4 ⟨x, v, b, rfl, hS3, hx3, hv3, hb3, hO3⟩
 have hrm := room_any x v d L b 1 S s2 ms2 [] w4 hS3
 rw [HN.out.1] at hrm
 have hM4 : MdS w w4 S d L x v b 1 0 s2 ms2 none 0 0 [] := ⟨hS3, H3.out.1, H3.out.2.1.below hO3, RcAt.nil _ _, Old.trans H3.out.2.2 hO3, H2.out.1, H2.out.2.1, Nat.le_trans H3.out.2.2.size hx3, Nat.le_trans H3.out.2.2.size hv3, Nat.le_refl _⟩
 have H4 := Lib.hid hM4
 clear hop hS3 hx3 hv3 hb3 hO3 hM4
 go_upto_region 6 with (go_at_call 23; refine hrm.mono ?_; rintro e w5 ⟨rfl, rfl⟩)
 clear hrm hne e2
 go_wp2_with fail
 go_loopw [12, 13] (fun mv iv wr => ∃ (k b n : Nat) (s : Dsk) (ms : List (List UInt8)) (A6 : Option Addr) (m6 c6 : Nat) (rs : List RcV), k ≤ N ∧ k ≤ 5 ∧ mv = .slice A6 m6 c6 ∧ iv = .int .i64 (k : Int) ∧ MdS w wr S d L x v b n k s ms A6 m6 c6 rs) (fun _ iv _ => 5 - (intOf iv).toNat)
 case atStart => exact ⟨0, b, 1, s2, ms2, none, 0, 0, [], by omega, by omega, rfl, rfl, H4.out⟩
 case round =>
  obtain ⟨k, b, n, s, ms, A6, m6, c6, rs, hk, hk6, rfl, rfl, hI⟩ := hrel
  by_cases hlt : k < N
  ·have hlti : (k : Int) < N := by omega
   have hltd : decide ((k : Int) < (N : Int)) = true := decide_eq_true hlti
   by_cases hl6 : k < 5
   ·have hl6i : (k : Int) < 5 := by omega
    have hl6d : decide ((k : Int) < 5) = true := decide_eq_true hl6i
    obtain ⟨cs, hcs⟩ : ∃ cs, css[k]? = some cs := ⟨_, List.getElem?_eq_getElem (by rw [HW.out.2.1]; exact hlt)⟩
    rcases HW.out.2.2 with hq | ⟨bq, off, hA, hbl, hrow⟩
    ·omega
    subst hA
    obtain ⟨Aj, mj, cj, hcell, hmj, hat⟩ := hrow k cs hcs
    have z0 := cell_old hI.old hcell
    have hlc := lcommit_any A6 Aj m6 c6 mj cj T rs cs wr hI.M hI.st.map.rise (by have h1 := hI.st.room; have h2 := HN.out.2.2; omega) (hat.below hI.old) hmj (by have h1 := HN.out.1; have h2 := HN.out.2.2; omega)
    have HI := Lib.hid hI
    obtain ⟨kj, hkj⟩ : ∃ kj, k + 1 = kj := ⟨_, rfl⟩
    have hki : (k : Int) + 1 = (kj : Int) := by omega
    have hkw : IntKind.i64.wrap (kj : Int) = (kj : Int) := IntWalk.i64_in _ (by omega)
    have HK := Lib.hid (And.intro hkj (And.intro hk (And.intro hlt hl6)))
    clear hcs hrow hat hI hmj hbl hcell hkj hk hk6 hlt hl6
    go_wp2_with fail
    refine hlc.mono ?_
    rintro e w6 ⟨A1, n1, c1, ps, A2, n2, c2, rs', rfl, hOw, hps, hR, hrs, hO6⟩
    obtain ⟨cv, hcv⟩ : ∃ cv, comV (recs rs) ps T = cv := ⟨_, rfl⟩
    rw [hcv] at hrs ⊢
    have hps2 := IV_len hps
    have hnl : n1 = ps.length := hOw.1.len
    have hI6 := HI.out.below hO6
    have hcm := stcommit_all hI6.st A1 n1 c1 ps hOw.at_ (by have := hps2.1; omega) hI6.K (by have h1 := hI6.nk; have h2 := HK.out.2.2.2; omega) hI6.F (by have h2 := HK.out.2.2.2; omega) HN.out.2.1 (by have := HN.out.2.2; omega) hps2.2
    unfold ComAll at hcm
    rw [HN.out.1, hcv] at hcm
    have q1 : ((cv : Int) != cv) = false := by simp
    have H6 := Lib.hid (And.intro hI6 (And.intro hR hrs))
    clear hlc hOw hps hR hrs hO6 hcv hps2 hnl hI6 z0
    go_wp2_with fail
    refine hcm.mono ?_
    rintro e w7 ⟨n', s', ms', b', rfl, hS7, hn7, hF7, hK7, hT7⟩
    rw [← H6.out.2.2] at hS7
    have H7 := Lib.hid (H6.out.1.done H6.out.2.1 hS7 hn7 hF7 hK7 hT7)
    clear hcm hS7 hn7 hF7 hK7 hT7
    go_wp2_with fail
    go_roundw
    case measure => have := HK.out.1; have := HK.out.2.2.2; simp [intOf]; omega
    have h8 := H7.out
    rw [HK.out.1] at h8
    exact ⟨kj, b', n', s', ms', A2, n2, c2, rs', by have := HK.out.1; have := HK.out.2.2.1; omega, by have := HK.out.1; have := HK.out.2.2.2; omega, rfl, rfl, h8⟩
   ·obtain rfl : k = 5 := by omega
    have hl6d : decide (((5 : Nat) : Int) < 5) = false := by decide
    have HI := Lib.hid hI
    clear hI
    go_wp2_with fail
    rw [← HTG.out]
    refine bodyPost_ret (results_tmp4 rfl _ _ _) rfl ?_
    exact ⟨d, L, x, v, b, n, s, ms, A6, m6, c6, rs, rfl, HI.out⟩
  ·obtain rfl : k = N := by omega
   have hlti : ¬ (k : Int) < k := by omega
   have hltd : decide ((k : Int) < (k : Int)) = false := decide_eq_false hlti
   have HI := Lib.hid (hI.more hk6)
   clear hI
   go_wp2_with fail
   rw [← HTG.out]
   refine bodyPost_ret (results_tmp4 rfl _ _ _) rfl ?_
   exact ⟨d, L, x, v, b, n, s, ms, A6, m6, c6, rs, rfl, HI.out⟩
theorem CssAt.below {w w' : World} {A : Option Addr} {m : Nat} {css : List (List IV)} (h : CssAt w A m css) (hb : Old w w') : CssAt w' A m css := by
 refine ⟨h.1, ?_⟩
 rcases h.2 with h0 | ⟨b, off, hA, hl, hr⟩
 ·exact .inl h0
 ·refine .inr ⟨b, off, hA, Nat.lt_of_lt_of_le hl hb.size, fun j cs hj => ?_⟩
  obtain ⟨Aj, mj, cj, h1, h2, h3⟩ := hr j cs hj
  exact ⟨Aj, mj, cj, cell_old hb h1, h2, h3.below hb⟩
theorem is_at {w : World} {x v d L b n S : Nat} {s : Dsk} {ms : List (List UInt8)} {M : List SRec} (h : StAt w x v d L b n S s ms M) (h1 : S ≤ 1000) {A : Option Addr} {m c : Nat} {rs : List RcV} (hR : RcAt w 0 (.slice A m c) rs) (hl : sload (recs rs) ≤ 64000) :
  Calls Tryz.prog 25 #[.pointer (some ⟨x, 0, none⟩), .slice A m c] w fun e w' => e = .returned (.bool (decide (M = recs rs))) ∧ Old w w' :=
 lis_any h.blk h.map h.fine A m c rs hR (by omega) (by have h2 := num_load M; have h3 := h.room; omega)
theorem is_same {w : World} {x v d L b n S : Nat} {s : Dsk} {ms : List (List UInt8)} {A : Option Addr} {m c : Nat} {rs : List RcV} (h : StAt w x v d L b n S s ms (recs rs)) (h1 : S ≤ 1000) (hR : RcAt w 0 (.slice A m c) rs) :
  Calls Tryz.prog 25 #[.pointer (some ⟨x, 0, none⟩), .slice A m c] w fun e w' => e = .returned (.bool true) ∧ Old w w' := by
 have h2 := is_at h h1 hR (by have := h.room; omega)
 rwa [decide_eq_true rfl] at h2
set_option maxHeartbeats 4000000 in
theorem storeCommits_any (n : Int) (A : Option Addr) (N c : Nat) (css : List (List IV)) (w : World) (hK : KAt w) (hn0 : -9223372036854775808 ≤ n) (hn1 : n ≤ 9223372036854775807) (hc : CssAt w A N css) (hN : (N : Int) ≤ 9223372036854775807) :
  Calls Tryz.prog 7 #[.int .i64 n, .slice A N c] w fun e w' => e = .returned (.bool true) ∧ Old w w' := by
 have hbg := stbegun_any w hK
 have hsz := fun W => lsize_any n hn0 hn1 W
 obtain ⟨hS0, hS1⟩ := sizeS_in n
 obtain ⟨S, hS⟩ : ∃ S, sizeS n = S := ⟨_, rfl⟩
 simp only [hS] at hsz
 rw [hS] at hS0 hS1
 have hmd := fun W (ho : Old w W) => stmade_any S A N c css W (hK.below ho) hS0 (by omega) (hc.below ho) hN
 have HW := Lib.hid (And.intro hK (And.intro hS0 hS1))
 clear hK hn0 hn1 hS hc hN hS0 hS1
 go_enter Tryz.func7, Tryz.ntmps7
 go_wp2_with fail
 refine hbg.mono ?_
 rintro e w1 ⟨rfl, hO1⟩
 have hmd1 := hmd w1 hO1
 have H1 := Lib.hid hO1
 clear hO1 hbg hmd
 go_wp2_with fail
 refine (hsz w1).mono ?_
 rintro e w1b ⟨rfl, rfl⟩
 clear hsz
 go_wp2_with fail
 refine hmd1.mono ?_
 rintro e w2 ⟨d, L, x, v, b, k, s, ms, A2, m2, c2, rs, rfl, hI⟩
 have his := is_same hI.st (by have := HW.out.2.2; omega) hI.M
 have H2 := Lib.hid hI
 clear hmd1 hI
 go_wp2_with fail
 refine his.mono ?_
 rintro e w3 ⟨rfl, hO3⟩
 have hI3 := H2.out.below hO3
 have hcr := dk_lost hI3.st.mnt.D
 have H3 := Lib.hid hI3
 clear his hI3 hO3
 go_wp2_with fail
 refine hcr.mono ?_
 rintro e w5 ⟨d5, L5, rfl, hD5, _, _, hO5⟩
 have hI5 := H3.out.below hO5
 have hG5 := hI5.st.mnt.G.crash (fun _ => false)
 obtain ⟨f1, f2, f3⟩ := crash_fresh s (fun _ => false)
 have hn5 := crash_n s (fun _ => false)
 have hDv : Dev w5 d5 L5 k (s.crash (fun _ => false)) S ms := ⟨hD5, hG5, hn5.trans hI5.st.mnt.sn, f2, f1⟩
 have hop := stopen_any hDv (by have := hI5.nk; omega) HW.out.2.1 (by have := HW.out.2.2; omega) hI5.st.vol hI5.st.fine hI5.st.map.rise hI5.st.room (by have h1 := num_load (recs rs); have h2 := hI5.st.room; have h3 := HW.out.2.2; omega) hI5.K
 have H5 := Lib.hid hI5
 clear hcr hI5 hD5 hG5 hn5 f1 f2 f3 hDv hO5
 go_wp2_with fail
 refine hop.mono ?_
 rintro e w6 ⟨x6, v6, b6, rfl, hS6, _, _, _, hO6⟩
 have hI6 := H5.out.below hO6
 have his := is_same hS6 (by have := HW.out.2.2; omega) hI6.M
 have H6 := Lib.hid (Old.trans H1.out hI6.old)
 clear hop hS6 hI6 hO6
 go_wp2_with fail
 refine his.mono ?_
 rintro e w7 ⟨rfl, hO7⟩
 have H7 := Lib.hid (Old.trans H6.out hO7)
 clear his hO7
 go_wp2_with fail
 go_ret
 exact ⟨rfl, H7.out⟩
end Go.Proofs.YtgjnmpjimhbfgaaGreatDoor
namespace Go.Proofs.YtgjnmpjimhbfgaaGreatDoor
set_option maxRecDepth 100000
open Go.RowKit Go.ChangeShapes Go.WideShapes Go.ChangeAt Go.Deep
section
variable {H : Type} {enc : TypeId × Value → H}
def IV.ok (W : World) (x : IV) : Prop := RdE W x.A x.m x.c x.l ∧ wfI x.id
theorem ch_trod {W : World} {n : Nat} {cs : List Value} {y : DataW H × List MemPlace} (h : DataW.trod enc Tryz.prog W 0 (fun _ => true) true n 101 cs = some y) : ∃ x : IV, cs = Tryz.eIC.cells x ∧ x.ok W := by
 obtain ⟨xs, n', _, hx', hlen, hxl, hfl⟩ := DataW.trod_struct Tryz.underlying101 h
 have hC : Tryz.prog.cellsOf 101 = 4 := by kernel_rfl
 have c1 : Tryz.prog.cellsOf 3 = 1 := by kernel_rfl
 have c2 : Tryz.prog.cellsOf 32 = 1 := by kernel_rfl
 have c3 : Tryz.prog.cellsOf 4 = 1 := by kernel_rfl
 match cs, hlen.trans hC with
 | [v0, v1, v2, v3], _ =>
  have hz : ∀ j, j < 4 → ∃ y, xs[j]? = some y := fun j hj => ⟨_, List.getElem?_eq_getElem (by rw [hxl]; exact hj)⟩
  obtain ⟨y0, hy0⟩ := hz 0 (by omega)
  have f0 : DataW.trod enc Tryz.prog W 0 (fun _ => true) true n' 3 (([v0, v1, v2, v3].drop 0).take (Tryz.prog.cellsOf 3)) = some y0 := (hfl 0 _ rfl).trans hy0
  rw [c1] at f0
  obtain ⟨a0, e0, _, w0⟩ := DataW.trod_int Tryz.underlying3 f0
  obtain ⟨y1, hy1⟩ := hz 1 (by omega)
  have f1 : DataW.trod enc Tryz.prog W 0 (fun _ => true) true n' 3 (([v0, v1, v2, v3].drop 1).take (Tryz.prog.cellsOf 3)) = some y1 := (hfl 1 _ rfl).trans hy1
  rw [c1] at f1
  obtain ⟨a1, e1, _, w1⟩ := DataW.trod_int Tryz.underlying3 f1
  obtain ⟨y2, hy2⟩ := hz 2 (by omega)
  have f2 : DataW.trod enc Tryz.prog W 0 (fun _ => true) true n' 4 (([v0, v1, v2, v3].drop 2).take (Tryz.prog.cellsOf 4)) = some y2 := (hfl 2 _ rfl).trans hy2
  rw [c3] at f2
  obtain ⟨b, e2, _⟩ := DataW.trod_bool Tryz.underlying4 f2
  obtain ⟨y3, hy3⟩ := hz 3 (by omega)
  have f3 : DataW.trod enc Tryz.prog W 0 (fun _ => true) true n' 32 (([v0, v1, v2, v3].drop 3).take (Tryz.prog.cellsOf 32)) = some y3 := (hfl 3 _ rfl).trans hy3
  rw [c2] at f3
  obtain ⟨A, m, c, l, e3, hr⟩ := rdE_trodN (v := v3) f3
  simp at e0 e1 e2
  subst e0 e1 e2 e3
  exact ⟨⟨a0, a1, b, A, m, c, l⟩, rfl, hr, w0⟩
theorem chs_trod {W : World} {n : Nat} {v : Value} {y : DataW H × List MemPlace} (h : DataW.trod enc Tryz.prog W 0 (fun _ => true) true n 61 [v] = some y) :
  ∃ A m c l, v = .slice A m c ∧ m ≤ maxLen ∧ CsAt W A m l := by
 obtain ⟨A, m, c, l, h1, h2, _, h3, h4, _⟩ := open_sliceF Tryz.eIC (IV.ok W) (by kernel_rfl) (fun n cs y h => ch_trod h) (fun x => ⟨_, rfl, .i64, x.id, .inl rfl⟩) h
 exact ⟨A, m, c, l, h1, h2, h3, fun x hx => (h4 x hx).1, fun x hx => (h4 x hx).2⟩
theorem open_chss {W : World} {base : Nat} {v : Value} {d : DataW H} {p : List MemPlace} (hval : Value.okWide Tryz.prog W .any base 56 v) (h : DataW.Trod enc Tryz.prog W 0 (fun _ => true) true 56 v d p) :
  ∃ A m c css, v = .slice A m c ∧ m ≤ maxLen ∧ CssAt W A m css := by
 have hval' := hval
 obtain ⟨a1, len, cap, rfl⟩ := okWide_slice Tryz.underlying56 hval
 obtain ⟨fuel, hf⟩ := h
 rcases open_slice Tryz.underlying56 hf with ⟨hcs, hx⟩ | ⟨a, len', cap', m, n, D, Pl, hcs, _, hl, hm, hmm, hx, hr⟩
 ·simp [Value.cells] at hcs
  obtain ⟨rfl, rfl, rfl⟩ := hcs
  exact ⟨_, _, _, [], rfl, Nat.zero_le _, rfl, .inl rfl⟩
 ·simp [Value.cells] at hcs
  obtain ⟨rfl, rfl, rfl⟩ := hcs
  simp only [if_true] at hmm
  unfold Value.okWide Cell.okWide Cell.ok at hval'
  rw [Tryz.underlying56] at hval'
  obtain ⟨_, _, _, hspot, row, cells, hsh, _⟩ := hval'
  have hlt : a.block < W.heap.size := by
   unfold World.shape? at hsh
   rcases Nat.lt_or_ge a.block W.heap.size with h | h
   ·exact h
   ·rw [Array.getElem?_eq_none h] at hsh; cases hsh
  obtain ⟨ab, ao, spot⟩ := a
  simp only at hspot hlt
  subst hspot
  have hC : Tryz.prog.cellsOf 61 = 1 := by kernel_rfl
  have key : ∀ i ∈ List.range len, ∃ cs : List IV, ∃ Aj mj cj, W.cell? ⟨ab, ao + i, none⟩ = some (.slice Aj mj cj) ∧ (mj : Int) ≤ 9223372036854775807 ∧ CsAt W Aj mj cs := by
   intro i hi
   rw [List.mem_range] at hi
   obtain ⟨cs', hcell, htr⟩ := hr i (by omega)
   rw [hC] at hcell
   obtain ⟨_, hcl, hat⟩ := World.cells?_some hcell
   have h0 := hat 0 (by omega)
   match cs', hcl with
   | [v0], _ =>
    obtain ⟨Aj, mj, cj, l, rfl, hml, h2⟩ := chs_trod htr
    refine ⟨l, Aj, mj, cj, ?_, by unfold maxLen at hml; omega, h2⟩
    rw [Nat.mul_one] at h0
    simpa [Addr.add_lit] using h0
  obtain ⟨css, hlen, hcss⟩ := pick_all (List.range len) key
  rw [List.length_range] at hlen
  refine ⟨_, len, cap, css, rfl, by omega, hlen.symm, .inr ⟨ab, ao, rfl, hlt, fun j cs hj => ?_⟩⟩
  have hjl : j < len := by have := (List.getElem?_eq_some_iff.1 hj).1; omega
  exact hcss j j cs (by rw [List.getElem?_range hjl]) hj
end
end Go.Proofs.YtgjnmpjimhbfgaaGreatDoor
