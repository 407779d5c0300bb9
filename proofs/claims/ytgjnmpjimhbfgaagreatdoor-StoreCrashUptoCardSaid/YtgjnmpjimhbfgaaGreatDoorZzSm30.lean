/-
  The law's made: a store behind some commits, and its model.
-/
import Derived.Test.YtgjnmpjimhbfgaaGreatDoorZzSm22
import Derived.Test.YtgjnmpjimhbfgaaGreatDoorZzFs30
import Derived.Test.YtgjnmpjimhbfgaaGreatDoorZzFs16
namespace Go.Proofs.YtgjnmpjimhbfgaaGreatDoor
set_option maxRecDepth 100000
open Go.RowKit
def CssAt (W : World) (A : Option Addr) (m : Nat) (css : List (List IV)) : Prop :=
 css.length = m ∧ (m = 0 ∨ ∃ b off, A = some ⟨b, off, none⟩ ∧ b < W.heap.size ∧ ∀ (j : Nat) (cs : List IV), css[j]? = some cs → ∃ Aj mj cj, W.cell? ⟨b, off + j, none⟩ = some (.slice Aj mj cj) ∧ (mj : Int) ≤ 9223372036854775807 ∧ CsAt W Aj mj cs)
def ComAll (w : World) (x v d L n S k : Nat) (M : List SRec) (ps : List PC) (e : Ending) (w' : World) : Prop :=
 ∃ n' s' ms' b', e = .returned (.int .i64 (comV M ps (64 * S))) ∧ StAt w' x v d L b' n' S s' ms' (if comV M ps (64 * S) = 0 then schgs M ps else M) ∧ n' ≤ n + 1 ∧ FOk s' (k + 1000) ∧ KAt w' ∧ Turn [x, d, L, v] w w'
theorem stcommit_all {w : World} {x v d L b n S k : Nat} {s : Dsk} {ms : List (List UInt8)} {M : List SRec} (h : StAt w x v d L b n S s ms M) (A : Option Addr) (m c : Nat) (cs : List PC) (hC : ChsAt w A m cs) (hm : m ≤ 4096)
  (hK : KAt w) (hn : n ≤ 99) (hf : FOk s k) (hk : k < 10000) (h0 : 64 ≤ S) (h1 : S ≤ 1000) (hlen : ∀ q ∈ cs, q.l.length ≤ 20000) :
  Calls Tryz.prog 14 #[.pointer (some ⟨x, 0, none⟩), .slice A m c] w (ComAll w x v d L n S k M cs) := by
 have hlm : cs.length = m := hC.rd.1
 have hnl := num_load M
 have hrm := h.room
 have hN : M.length ≤ 90000 := by omega
 have hle : ∀ q ∈ cs, q.l.length ≤ 100000 := fun q hq => by have := hlen q hq; omega
 have hnil : m = 0 → cs = [] := fun e => List.eq_nil_of_length_eq_zero (by omega)
 cases hok : cs.all okC with
 | false =>
  have hcv : comV M cs (64 * S) = 7 := by unfold comV; rw [hok]; rfl
  refine (stcommit_bad x A m c cs w hC hm hok).mono ?_
  rintro e w' ⟨rfl, hO⟩
  exact ⟨n, s, ms, b, by rw [hcv], by rw [hcv, if_neg (by decide)]; exact h.below hO, by omega, hf.mono (by omega), hK.below hO, Turn.of_below _ hO⟩
 | true =>
  by_cases hld : 64 * S < sload (schgs M cs)
  ·have hcv : comV M cs (64 * S) = 49 := by unfold comV; rw [hok, if_pos rfl, if_pos hld]
   have hsl := sload_chgs 20000 cs M hlen
   have hmul : cs.length * (20000 + 8) ≤ 4096 * 20008 := Nat.mul_le_mul (by omega) (Nat.le_refl _)
   have hpos : 0 < m := by
    rcases Nat.eq_zero_or_pos m with e | e
    ·have h2 := hnil e
     subst h2
     exact absurd hld (by rw [show schgs M ([] : List PC) = M from rfl]; omega)
    ·exact e
   refine (stcommit_full h.blk h.map A m c cs hC hpos hm hok hld (by omega) hN hle).mono ?_
   rintro e w' ⟨rfl, hO⟩
   exact ⟨n, s, ms, b, by rw [hcv], by rw [hcv, if_neg (by decide)]; exact h.below hO, by omega, hf.mono (by omega), hK.below hO, Turn.of_below _ hO⟩
  ·have hcv : comV M cs (64 * S) = 0 := by unfold comV; rw [hok, if_pos rfl, if_neg hld]
   rcases Nat.eq_zero_or_pos m with e | e
   ·have h2 := hnil e
    subst h2
    subst e
    refine (stcommit_none x A c w hC).mono ?_
    rintro e w' ⟨rfl, hO⟩
    exact ⟨n, s, ms, b, by rw [hcv], by rw [hcv, if_pos rfl]; exact h.below hO, by omega, hf.mono (by omega), hK.below hO, Turn.of_below _ hO⟩
   ·refine (stcommit_live h A m c cs hC e hm hok (by omega) hK hn hf hk h0 h1 hN hle).mono ?_
    rintro e w' ⟨s', ms', b', rfl, hS, hF, _, hK', hT⟩
    exact ⟨n + 1, s', ms', b', by rw [hcv], by rw [hcv, if_pos rfl]; exact hS, Nat.le_refl _, hF, hK', hT⟩
structure MdS (w wr : World) (S d L x v b n k : Nat) (s : Dsk) (ms : List (List UInt8)) (A : Option Addr) (m c : Nat) (rs : List RcV) : Prop where
 st : StAt wr x v d L b n S s ms (recs rs)
 F : FOk s (1000 * k + 2000)
 K : KAt wr
 M : RcAt wr 0 (.slice A m c) rs
 old : Old w wr
 ld : w.heap.size ≤ d
 lL : w.heap.size ≤ L
 lx : w.heap.size ≤ x
 lv : w.heap.size ≤ v
 nk : n ≤ k + 1
section
variable {w wr : World} {S d L x v b n k : Nat} {s : Dsk} {ms : List (List UInt8)} {A : Option Addr} {m c : Nat} {rs : List RcV}
theorem MdS.below {w' : World} (h : MdS w wr S d L x v b n k s ms A m c rs) (hb : Old wr w') : MdS w w' S d L x v b n k s ms A m c rs :=
 ⟨h.st.below hb, h.F, h.K.below hb, h.M.below hb, Old.trans h.old hb, h.ld, h.lL, h.lx, h.lv, h.nk⟩
theorem MdS.more {k' : Nat} (h : MdS w wr S d L x v b n k s ms A m c rs) (hk : k ≤ k') : MdS w wr S d L x v b n k' s ms A m c rs :=
 ⟨h.st, h.F.mono (by omega), h.K, h.M, h.old, h.ld, h.lL, h.lx, h.lv, by have := h.nk; omega⟩
theorem MdS.types (h : MdS w wr S d L x v b n k s ms A m c rs) : ∀ g ∈ [x, d, L, v], wr.heap.size ≤ g ∨ ∃ t cs, Blk wr g t cs ∧ t ≠ 5 ∧ t ≠ 53 := by
 intro g hg
 obtain ⟨⟨c1, h1⟩, c2, h2⟩ := h.st.mnt.q.D.typed
 right
 rcases List.mem_cons.1 hg with rfl | hg
 ·exact ⟨_, _, h.st.blk, by decide, by decide⟩
 rcases List.mem_cons.1 hg with rfl | hg
 ·exact ⟨_, _, h1, by decide, by decide⟩
 rcases List.mem_cons.1 hg with rfl | hg
 ·exact ⟨_, _, h2, by decide, by decide⟩
 rw [List.mem_singleton] at hg
 subst hg
 exact ⟨_, _, h.st.mnt.q.V, by decide, by decide⟩
theorem MdS.done (h : MdS w wr S d L x v b n k s ms A m c rs) {w' : World} {n' b' : Nat} {s' : Dsk} {ms' : List (List UInt8)} {A' : Option Addr} {m' c' : Nat} {rs' : List RcV} (hM : RcAt wr 0 (.slice A' m' c') rs')
  (hS : StAt w' x v d L b' n' S s' ms' (recs rs')) (hn : n' ≤ n + 1) (hF : FOk s' (1000 * k + 2000 + 1000)) (hK : KAt w') (ht : Turn [x, d, L, v] wr w') : MdS w w' S d L x v b' n' (k + 1) s' ms' A' m' c' rs' :=
 ⟨hS, hF.mono (by omega), hK, hM.turn ht h.types, below_turn h.old ht (by have := h.ld; have := h.lL; have := h.lx; have := h.lv; simp; omega) h.old.size, h.ld, h.lL, h.lx, h.lv, by have := h.nk; omega⟩
end
def MdRes (w : World) (S : Nat) (e : Ending) (w' : World) : Prop := ∃ (d L x v b n : Nat) (s : Dsk) (ms : List (List UInt8)) (A' : Option Addr) (m' c' : Nat) (rs : List RcV),
 e = .returned (.tuple #[.pointer (some ⟨d, 0, none⟩), .pointer (some ⟨x, 0, none⟩), .slice A' m' c', .bool true]) ∧ MdS w w' S d L x v b n 5 s ms A' m' c' rs
theorem IV_len {ps : List PC} {cs : List IV} (h : ps.map PC.ch = (cs.take 12).map IV.ch) : ps.length ≤ 12 ∧ ∀ q ∈ ps, q.l.length ≤ 20000 := by
 constructor
 ·have := congrArg List.length h
  rw [List.length_map, List.length_map, List.length_take] at this
  omega
 ·intro q hq
  have h1 : PC.ch q ∈ (cs.take 12).map IV.ch := by rw [← h]; exact List.mem_map_of_mem hq
  obtain ⟨y, _, hy⟩ := List.mem_map.1 h1
  have h2 : full y.l y.nn = q.l := congrArg (fun z => z.2.2) hy
  rw [← h2, full_len _ _ y.nn_le]
  exact y.nn_le
set_option maxHeartbeats 8000000 in
theorem stmade_any (S : Nat) (A : Option Addr) (N c : Nat) (css : List (List IV)) (w : World) (hK : KAt w) (h0 : 64 ≤ S) (h1 : S ≤ 163) (hc : CssAt w A N css) (hN : (N : Int) ≤ 9223372036854775807) :
  Calls Tryz.prog 26 #[.int .i64 (S : Int), .slice A N c] w (MdRes w S) := by
 have HW := Lib.hid (And.intro hK hc)
 obtain ⟨T, hT⟩ : ∃ T, 64 * S = T := ⟨_, rfl⟩
 have hnew := dk_new S (by omega) (by omega) w
 have HN := Lib.hid (And.intro hT (And.intro h0 h1))
 have e1 : (64 : Int) * (S : Int) = (T : Int) := by omega
 have e1w : IntKind.i64.wrap (T : Int) = (T : Int) := IntWalk.i64_in _ (by omega)
 have e2 : ((T : Int) != (T : Int)) = false := by simp
 have hne := neStore
 obtain ⟨TG, hTG⟩ : ∃ TG : Ending → World → Prop, MdRes w S = TG := ⟨_, rfl⟩
 rw [hTG]
 have HTG := Lib.hid hTG
 clear hK hc hT h0 h1 hTG
 go_enter Tryz.func26, Tryz.ntmps26
 go_wp2_with fail
 refine hnew.mono ?_
 rintro e w2 ⟨d, L, rfl, hD1, hdw, hLw, hO1⟩
 have hfm := stformat_any d L S (Dsk.new S) w2 hD1 (zeroD_new S) (new_n S) HN.out.2.1 (by have := HN.out.2.2; omega) (new_fok S) ⟨rfl, rfl⟩ (HW.out.1.below hO1)
 have H2 := Lib.hid (And.intro hdw (And.intro hLw hO1))
 clear hD1 hdw hLw hO1 hnew
 go_wp2_with fail
 refine hfm.mono ?_
 rintro e w3 ⟨s2, ms2, rfl, hDv2, hV2, hl2, hF2, hK2, hT2⟩
 have hO2 : Old w w3 := below_turn H2.out.2.2 hT2 (by have h1 := H2.out.1; have h2 := H2.out.2.1; simp; omega) H2.out.2.2.size
 have hop := stopen_any hDv2 (by omega) HN.out.2.1 (by have := HN.out.2.2; omega) hV2 Fine.nil Rising.nil (by simp [sload]) (by simp) hK2
 have H3 := Lib.hid (And.intro hF2 (And.intro hK2 hO2))
 clear hfm hDv2 hV2 hl2 hF2 hK2 hT2 hO2
 go_wp2_with fail
 refine hop.mono ?_
 rintro e w4 ⟨x, v, b, rfl, hS3, hx3, hv3, hb3, hO3⟩
 have hrm := room_any x v d L b 1 S s2 ms2 [] w4 hS3
 rw [HN.out.1] at hrm
 have hM4 : MdS w w4 S d L x v b 1 0 s2 ms2 none 0 0 [] := ⟨hS3, H3.out.1, H3.out.2.1.below hO3, RcAt.nil _ _, Old.trans H3.out.2.2 hO3, H2.out.1, H2.out.2.1, Nat.le_trans H3.out.2.2.size hx3, Nat.le_trans H3.out.2.2.size hv3, Nat.le_refl _⟩
 have H4 := Lib.hid hM4
 clear hop hS3 hx3 hv3 hb3 hO3 hM4
 go_upto_region 6 with (go_at_call 23; refine hrm.mono ?_; rintro e w5 ⟨rfl, rfl⟩)
 clear hrm hne e2
 go_wp2_with fail
 go_loopw [12, 13] (fun mv iv wr => ∃ (k b n : Nat) (s : Dsk) (ms : List (List UInt8)) (A6 : Option Addr) (m6 c6 : Nat) (rs : List RcV), k ≤ N ∧ k ≤ 5 ∧ mv = .slice A6 m6 c6 ∧ iv = .int .i64 (k : Int) ∧ MdS w wr S d L x v b n k s ms A6 m6 c6 rs) (fun _ iv _ => 5 - (intOf iv).toNat)
 case atStart => exact ⟨0, b, 1, s2, ms2, none, 0, 0, [], by omega, by omega, rfl, rfl, H4.out⟩
 case round =>
  obtain ⟨k, b, n, s, ms, A6, m6, c6, rs, hk, hk6, rfl, rfl, hI⟩ := hrel
  by_cases hlt : k < N
  ·have hlti : (k : Int) < N := by omega
   have hltd : decide ((k : Int) < (N : Int)) = true := decide_eq_true hlti
   by_cases hl6 : k < 5
   ·have hl6i : (k : Int) < 5 := by omega
    have hl6d : decide ((k : Int) < 5) = true := decide_eq_true hl6i
    obtain ⟨cs, hcs⟩ : ∃ cs, css[k]? = some cs := ⟨_, List.getElem?_eq_getElem (by rw [HW.out.2.1]; exact hlt)⟩
    rcases HW.out.2.2 with hq | ⟨bq, off, hA, hbl, hrow⟩
    ·omega
    subst hA
    obtain ⟨Aj, mj, cj, hcell, hmj, hat⟩ := hrow k cs hcs
    have z0 := cell_old hI.old hcell
    have hlc := lcommit_any A6 Aj m6 c6 mj cj T rs cs wr hI.M hI.st.map.rise (by have h1 := hI.st.room; have h2 := HN.out.2.2; omega) (hat.below hI.old) hmj (by have h1 := HN.out.1; have h2 := HN.out.2.2; omega)
    have HI := Lib.hid hI
    obtain ⟨kj, hkj⟩ : ∃ kj, k + 1 = kj := ⟨_, rfl⟩
    have hki : (k : Int) + 1 = (kj : Int) := by omega
    have hkw : IntKind.i64.wrap (kj : Int) = (kj : Int) := IntWalk.i64_in _ (by omega)
    have HK := Lib.hid (And.intro hkj (And.intro hk (And.intro hlt hl6)))
    clear hcs hrow hat hI hmj hbl hcell hkj hk hk6 hlt hl6
    go_wp2_with fail
    refine hlc.mono ?_
    rintro e w6 ⟨A1, n1, c1, ps, A2, n2, c2, rs', rfl, hOw, hps, hR, hrs, hO6⟩
    obtain ⟨cv, hcv⟩ : ∃ cv, comV (recs rs) ps T = cv := ⟨_, rfl⟩
    rw [hcv] at hrs ⊢
    have hps2 := IV_len hps
    have hnl : n1 = ps.length := hOw.1.len
    have hI6 := HI.out.below hO6
    have hcm := stcommit_all hI6.st A1 n1 c1 ps hOw.at_ (by have := hps2.1; omega) hI6.K (by have h1 := hI6.nk; have h2 := HK.out.2.2.2; omega) hI6.F (by have h2 := HK.out.2.2.2; omega) HN.out.2.1 (by have := HN.out.2.2; omega) hps2.2
    unfold ComAll at hcm
    rw [HN.out.1, hcv] at hcm
    have q1 : ((cv : Int) != cv) = false := by simp
    have H6 := Lib.hid (And.intro hI6 (And.intro hR hrs))
    clear hlc hOw hps hR hrs hO6 hcv hps2 hnl hI6 z0
    go_wp2_with fail
    refine hcm.mono ?_
    rintro e w7 ⟨n', s', ms', b', rfl, hS7, hn7, hF7, hK7, hT7⟩
    rw [← H6.out.2.2] at hS7
    have H7 := Lib.hid (H6.out.1.done H6.out.2.1 hS7 hn7 hF7 hK7 hT7)
    clear hcm hS7 hn7 hF7 hK7 hT7
    go_wp2_with fail
    go_roundw
    case measure => have := HK.out.1; have := HK.out.2.2.2; simp [intOf]; omega
    have h8 := H7.out
    rw [HK.out.1] at h8
    exact ⟨kj, b', n', s', ms', A2, n2, c2, rs', by have := HK.out.1; have := HK.out.2.2.1; omega, by have := HK.out.1; have := HK.out.2.2.2; omega, rfl, rfl, h8⟩
   ·obtain rfl : k = 5 := by omega
    have hl6d : decide (((5 : Nat) : Int) < 5) = false := by decide
    have HI := Lib.hid hI
    clear hI
    go_wp2_with fail
    rw [← HTG.out]
    refine bodyPost_ret (results_tmp4 rfl _ _ _) rfl ?_
    exact ⟨d, L, x, v, b, n, s, ms, A6, m6, c6, rs, rfl, HI.out⟩
  ·obtain rfl : k = N := by omega
   have hlti : ¬ (k : Int) < k := by omega
   have hltd : decide ((k : Int) < (k : Int)) = false := decide_eq_false hlti
   have HI := Lib.hid (hI.more hk6)
   clear hI
   go_wp2_with fail
   rw [← HTG.out]
   refine bodyPost_ret (results_tmp4 rfl _ _ _) rfl ?_
   exact ⟨d, L, x, v, b, n, s, ms, A6, m6, c6, rs, rfl, HI.out⟩
theorem CssAt.below {w w' : World} {A : Option Addr} {m : Nat} {css : List (List IV)} (h : CssAt w A m css) (hb : Old w w') : CssAt w' A m css := by
 refine ⟨h.1, ?_⟩
 rcases h.2 with h0 | ⟨b, off, hA, hl, hr⟩
 ·exact .inl h0
 ·refine .inr ⟨b, off, hA, Nat.lt_of_lt_of_le hl hb.size, fun j cs hj => ?_⟩
  obtain ⟨Aj, mj, cj, h1, h2, h3⟩ := hr j cs hj
  exact ⟨Aj, mj, cj, cell_old hb h1, h2, h3.below hb⟩
theorem is_at {w : World} {x v d L b n S : Nat} {s : Dsk} {ms : List (List UInt8)} {M : List SRec} (h : StAt w x v d L b n S s ms M) (h1 : S ≤ 1000) {A : Option Addr} {m c : Nat} {rs : List RcV} (hR : RcAt w 0 (.slice A m c) rs) (hl : sload (recs rs) ≤ 64000) :
  Calls Tryz.prog 25 #[.pointer (some ⟨x, 0, none⟩), .slice A m c] w fun e w' => e = .returned (.bool (decide (M = recs rs))) ∧ Old w w' :=
 lis_any h.blk h.map h.fine A m c rs hR (by omega) (by have h2 := num_load M; have h3 := h.room; omega)
end Go.Proofs.YtgjnmpjimhbfgaaGreatDoor
namespace Go.Proofs.YtgjnmpjimhbfgaaGreatDoor
set_option maxRecDepth 100000
open Go.RowKit Go.ChangeShapes Go.WideShapes Go.ChangeAt Go.Deep
section
variable {H : Type} {enc : TypeId × Value → H}
def IV.ok (W : World) (x : IV) : Prop := RdE W x.A x.m x.c x.l ∧ wfI x.id
theorem ch_trod {W : World} {n : Nat} {cs : List Value} {y : DataW H × List MemPlace} (h : DataW.trod enc Tryz.prog W 0 (fun _ => true) true n 101 cs = some y) : ∃ x : IV, cs = Tryz.eIC.cells x ∧ x.ok W := by
 obtain ⟨xs, n', _, hx', hlen, hxl, hfl⟩ := DataW.trod_struct Tryz.underlying101 h
 have hC : Tryz.prog.cellsOf 101 = 4 := by kernel_rfl
 have c1 : Tryz.prog.cellsOf 3 = 1 := by kernel_rfl
 have c2 : Tryz.prog.cellsOf 32 = 1 := by kernel_rfl
 have c3 : Tryz.prog.cellsOf 4 = 1 := by kernel_rfl
 match cs, hlen.trans hC with
 | [v0, v1, v2, v3], _ =>
  have hz : ∀ j, j < 4 → ∃ y, xs[j]? = some y := fun j hj => ⟨_, List.getElem?_eq_getElem (by rw [hxl]; exact hj)⟩
  obtain ⟨y0, hy0⟩ := hz 0 (by omega)
  have f0 : DataW.trod enc Tryz.prog W 0 (fun _ => true) true n' 3 (([v0, v1, v2, v3].drop 0).take (Tryz.prog.cellsOf 3)) = some y0 := (hfl 0 _ rfl).trans hy0
  rw [c1] at f0
  obtain ⟨a0, e0, _, w0⟩ := DataW.trod_int Tryz.underlying3 f0
  obtain ⟨y1, hy1⟩ := hz 1 (by omega)
  have f1 : DataW.trod enc Tryz.prog W 0 (fun _ => true) true n' 3 (([v0, v1, v2, v3].drop 1).take (Tryz.prog.cellsOf 3)) = some y1 := (hfl 1 _ rfl).trans hy1
  rw [c1] at f1
  obtain ⟨a1, e1, _, w1⟩ := DataW.trod_int Tryz.underlying3 f1
  obtain ⟨y2, hy2⟩ := hz 2 (by omega)
  have f2 : DataW.trod enc Tryz.prog W 0 (fun _ => true) true n' 4 (([v0, v1, v2, v3].drop 2).take (Tryz.prog.cellsOf 4)) = some y2 := (hfl 2 _ rfl).trans hy2
  rw [c3] at f2
  obtain ⟨b, e2, _⟩ := DataW.trod_bool Tryz.underlying4 f2
  obtain ⟨y3, hy3⟩ := hz 3 (by omega)
  have f3 : DataW.trod enc Tryz.prog W 0 (fun _ => true) true n' 32 (([v0, v1, v2, v3].drop 3).take (Tryz.prog.cellsOf 32)) = some y3 := (hfl 3 _ rfl).trans hy3
  rw [c2] at f3
  obtain ⟨A, m, c, l, e3, hr⟩ := rdE_trodN (v := v3) f3
  simp at e0 e1 e2
  subst e0 e1 e2 e3
  exact ⟨⟨a0, a1, b, A, m, c, l⟩, rfl, hr, w0⟩
theorem chs_trod {W : World} {n : Nat} {v : Value} {y : DataW H × List MemPlace} (h : DataW.trod enc Tryz.prog W 0 (fun _ => true) true n 61 [v] = some y) :
  ∃ A m c l, v = .slice A m c ∧ m ≤ maxLen ∧ CsAt W A m l := by
 obtain ⟨A, m, c, l, h1, h2, _, h3, h4, _⟩ := open_sliceF Tryz.eIC (IV.ok W) (by kernel_rfl) (fun n cs y h => ch_trod h) (fun x => ⟨_, rfl, .i64, x.id, .inl rfl⟩) h
 exact ⟨A, m, c, l, h1, h2, h3, fun x hx => (h4 x hx).1, fun x hx => (h4 x hx).2⟩
theorem open_chsB {W : World} {base : Nat} {v : Value} {d : DataW H} {p : List MemPlace} (hval : Value.okWide Tryz.prog W .any base 61 v) (h : DataW.Trod enc Tryz.prog W 0 (fun _ => true) true 61 v d p) :
  ∃ A m c l, v = .slice A m c ∧ m ≤ maxLen ∧ CsAt W A m l := by
 obtain ⟨fuel, hf⟩ := h
 have hc : v.cells.toList = [v] := by
  obtain ⟨a1, len, cap, rfl⟩ := okWide_slice Tryz.underlying61 hval
  rfl
 rw [hc] at hf
 exact chs_trod hf
theorem open_chss {W : World} {base : Nat} {v : Value} {d : DataW H} {p : List MemPlace} (hval : Value.okWide Tryz.prog W .any base 56 v) (h : DataW.Trod enc Tryz.prog W 0 (fun _ => true) true 56 v d p) :
  ∃ A m c css, v = .slice A m c ∧ m ≤ maxLen ∧ CssAt W A m css := by
 have hval' := hval
 obtain ⟨a1, len, cap, rfl⟩ := okWide_slice Tryz.underlying56 hval
 obtain ⟨fuel, hf⟩ := h
 rcases open_slice Tryz.underlying56 hf with ⟨hcs, hx⟩ | ⟨a, len', cap', m, n, D, Pl, hcs, _, hl, hm, hmm, hx, hr⟩
 ·simp [Value.cells] at hcs
  obtain ⟨rfl, rfl, rfl⟩ := hcs
  exact ⟨_, _, _, [], rfl, Nat.zero_le _, rfl, .inl rfl⟩
 ·simp [Value.cells] at hcs
  obtain ⟨rfl, rfl, rfl⟩ := hcs
  simp only [if_true] at hmm
  unfold Value.okWide Cell.okWide Cell.ok at hval'
  rw [Tryz.underlying56] at hval'
  obtain ⟨_, _, _, hspot, row, cells, hsh, _⟩ := hval'
  have hlt : a.block < W.heap.size := by
   unfold World.shape? at hsh
   rcases Nat.lt_or_ge a.block W.heap.size with h | h
   ·exact h
   ·rw [Array.getElem?_eq_none h] at hsh; cases hsh
  obtain ⟨ab, ao, spot⟩ := a
  simp only at hspot hlt
  subst hspot
  have hC : Tryz.prog.cellsOf 61 = 1 := by kernel_rfl
  have key : ∀ i ∈ List.range len, ∃ cs : List IV, ∃ Aj mj cj, W.cell? ⟨ab, ao + i, none⟩ = some (.slice Aj mj cj) ∧ (mj : Int) ≤ 9223372036854775807 ∧ CsAt W Aj mj cs := by
   intro i hi
   rw [List.mem_range] at hi
   obtain ⟨cs', hcell, htr⟩ := hr i (by omega)
   rw [hC] at hcell
   obtain ⟨_, hcl, hat⟩ := World.cells?_some hcell
   have h0 := hat 0 (by omega)
   match cs', hcl with
   | [v0], _ =>
    obtain ⟨Aj, mj, cj, l, rfl, hml, h2⟩ := chs_trod htr
    refine ⟨l, Aj, mj, cj, ?_, by unfold maxLen at hml; omega, h2⟩
    rw [Nat.mul_one] at h0
    simpa [Addr.add_lit] using h0
  obtain ⟨css, hlen, hcss⟩ := pick_all (List.range len) key
  rw [List.length_range] at hlen
  refine ⟨_, len, cap, css, rfl, by omega, hlen.symm, .inr ⟨ab, ao, rfl, hlt, fun j cs hj => ?_⟩⟩
  have hjl : j < len := by have := (List.getElem?_eq_some_iff.1 hj).1; omega
  exact hcss j j cs (by rw [List.getElem?_range hjl]) hj
end
end Go.Proofs.YtgjnmpjimhbfgaaGreatDoor
namespace Go.Proofs.YtgjnmpjimhbfgaaGreatDoor
set_option maxRecDepth 100000
open Go.RowKit
structure KeepS (W : World) (bx B0 : Nat) (A : Option Addr) (c : Nat) (ks : List Bool) : Prop where
 c0 : W.cell? ⟨bx, 0, none⟩ = some (.slice A ks.length c)
 rd : ks = [] ∨ ∃ b off, A = some ⟨b, off, none⟩ ∧ b < B0 ∧ ∀ (j : Nat) (x : Bool), ks[j]? = some x → W.cell? ⟨b, off + j, none⟩ = some (.bool x)
 lt : bx < B0
theorem KeepS.keep {W W' : World} {bx B0 : Nat} {A : Option Addr} {c : Nat} {ks : List Bool} (h : KeepS W bx B0 A c ks) (hb : ∀ j, j < B0 → W'.heap[j]? = W.heap[j]?) : KeepS W' bx B0 A c ks := by
 have hl := h.lt
 refine ⟨(World.cell?_of_block (a := ⟨bx, 0, none⟩) (hb bx hl)).trans h.c0, ?_, hl⟩
 rcases h.rd with h | ⟨b, off, h1, h2, h3⟩
 ·exact .inl h
 ·exact .inr ⟨b, off, h1, h2, fun j x hx => (World.cell?_of_block (a := ⟨b, off + j, none⟩) (hb b h2)).trans (h3 j x hx)⟩
theorem keptS_ask (bx B0 : Nat) (A : Option Addr) (c : Nat) (ks : List Bool) (hks : ks.length ≤ 9223372036854775807) (k : Nat) (hk : k ≤ 65536) (W : World) (h : KeepS W bx B0 A c ks) :
  Calls Tryz.prog 30 #[.int .i64 (k : Int), .pointer (some ⟨bx, 0, none⟩)] W fun e w' => e = .returned (.bool (keptB ks false k)) ∧ Old W w' := by
 obtain ⟨c0, hr, _⟩ := h
 unfold keptB
 obtain ⟨n, hn⟩ : ∃ n, ks.length = n := ⟨_, rfl⟩
 rw [hn] at c0 hks ⊢
 by_cases h0 : n = 0
 ·subst h0
  rw [if_pos rfl]
  have HC := Lib.hid c0
  clear hn hr c0
  go_enter Tryz.func30, Tryz.ntmps30
  go_wp2_with fail
  refine region_old (by kernel_rfl) (fun wd hHeld hSz => ?_)
  have HSz := Lib.hid hSz
  clear hSz
  refine tkS 0 hHeld ?_ (hy := by intro wq hSw; have z0 := cell_old hSw HC.out; clear hSw; go_simp; try with_reducible rfl)
  refine tkS 1 hHeld ?_
  refine tkS 2 hHeld ?_
  refine tkS 3 hHeld ?_
  refine takeL (i := 4) (v := undef) rfl (by kernel_rfl) (by kernel_rfl) (by kernel_rfl) (fun _ _ _ h => h) (Or.inr ⟨by rfl, rfl⟩) hHeld ?_
  try simp only [Act.put, sA, sB, sC]
  refine takeL (i := 5) (v := undef) rfl (by kernel_rfl) (by kernel_rfl) (by kernel_rfl) (fun _ _ _ h => h) (Or.inr ⟨by rfl, rfl⟩) hHeld ?_
  try simp only [Act.put, sA, sB, sC]
  refine tkS 6 hHeld ?_
  refine tkS 7 hHeld ?_
  refine takeL (i := 8) (v := undef) rfl (by kernel_rfl) (by kernel_rfl) (by kernel_rfl) (fun _ _ _ h => h) (Or.inr ⟨by rfl, rfl⟩) hHeld ?_
  try simp only [Act.put, sA, sB, sC]
  refine takeL (i := 9) (v := undef) rfl (by kernel_rfl) (by kernel_rfl) (by kernel_rfl) (fun _ _ _ h => h) (Or.inr ⟨by rfl, rfl⟩) hHeld ?_
  try simp only [Act.put, sA, sB, sC]
  refine takeL (i := 10) (v := undef) rfl (by kernel_rfl) (by kernel_rfl) (by kernel_rfl) (fun _ _ _ h => h) (Or.inr ⟨by rfl, rfl⟩) hHeld ?_
  try simp only [Act.put, sA, sB, sC]
  refine takeL (i := 11) (v := undef) rfl (by kernel_rfl) (by kernel_rfl) (by kernel_rfl) (fun _ _ _ h => h) (Or.inr ⟨by rfl, rfl⟩) hHeld ?_
  try simp only [Act.put, sA, sB, sC]
  refine takeL (i := 12) (v := undef) rfl (by kernel_rfl) (by kernel_rfl) (by kernel_rfl) (fun _ _ _ h => h) (Or.inr ⟨by rfl, rfl⟩) hHeld ?_
  try simp only [Act.put, sA, sB, sC]
  refine takeL (i := 13) (v := undef) rfl (by kernel_rfl) (by kernel_rfl) (by kernel_rfl) (fun _ _ _ h => h) (Or.inr ⟨by rfl, rfl⟩) hHeld ?_
  try simp only [Act.put, sA, sB, sC]
  refine takeL (i := 14) (v := undef) rfl (by kernel_rfl) (by kernel_rfl) (by kernel_rfl) (fun _ _ _ h => h) (Or.inr ⟨by rfl, rfl⟩) hHeld ?_
  try simp only [Act.put, sA, sB, sC]
  refine tkS 15 hHeld ?_
  refine tkS 16 hHeld ?_
  refine wpAnyH_done (by kernel_rfl) ?_ _
  refine NoPanic.normal ?_
  try simp only [Exit.then]
  go_wp2_with fail
  go_ret
  exact ⟨rfl, hHeld⟩
 ·rw [if_neg h0]
  rcases hr with rfl | ⟨b, off, rfl, hb, hcell⟩
  ·simp at hn; omega
  obtain ⟨r, hrr⟩ : ∃ r, k % n = r := ⟨_, rfl⟩
  have hrn : r < n := by rw [← hrr]; exact Nat.mod_lt _ (by omega)
  obtain ⟨x, hx⟩ : ∃ x, ks[r]? = some x := ⟨_, List.getElem?_eq_getElem (by omega)⟩
  have hc := hcell r x hx
  rw [hrr, hx, Option.getD_some]
  have hmod : (k : Int).tmod (n : Int) = (r : Int) := by rw [Int.tmod_eq_emod_of_nonneg (by omega)]; rw [← hrr]; omega
  have hn0 : ((n : Int) == 0) = false := by simp; omega
  have hn1 : ¬ (n : Int) = 0 := by omega
  have hn2 : decide ((n : Int) > 0) = true := decide_eq_true (by omega)
  have hn3 : decide (0 < n) = true := decide_eq_true (by omega)
  have hk0 : (0 : Int) ≤ (k : Int) := by omega
  have hk0d : decide ((0 : Int) ≤ (k : Int)) = true := decide_eq_true hk0
  have hk0e : decide ((k : Int) ≥ 0) = true := decide_eq_true hk0
  have hrw : IntKind.i64.wrap (r : Int) = (r : Int) := IntWalk.i64_in _ (by omega)
  have hri : (r : Int) < (n : Int) := by omega
  have HC := Lib.hid (And.intro c0 hc)
  clear hcell hx hb hrr hn c0 hc
  go_enter Tryz.func30, Tryz.ntmps30
  go_wp2_with fail
  refine region_old (by kernel_rfl) (fun wd hHeld hSz => ?_)
  have HSz := Lib.hid hSz
  clear hSz
  refine tkS 0 hHeld ?_ (hy := by intro wq hSw; have z0 := cell_old hSw HC.out.1; clear hSw; go_simp; try with_reducible rfl)
  refine tkS 1 hHeld ?_
  refine tkS 2 hHeld ?_
  refine tkS 3 hHeld ?_
  refine tkS 4 hHeld ?_
  refine tkS 5 hHeld ?_
  refine tkS 6 hHeld ?_
  refine tkS 7 hHeld ?_
  refine tkS 8 hHeld ?_ (hy := by intro wq hSw; have z0 := cell_old hSw HC.out.1; clear hSw; go_simp; try with_reducible rfl)
  refine tkS 9 hHeld ?_
  refine tkS 10 hHeld ?_ (hy := by intro wq hSw; have z0 := cell_old hSw HC.out.1; clear hSw; go_simp; try with_reducible rfl)
  refine tkS 11 hHeld ?_
  refine tkS 12 hHeld ?_
  refine tkS 13 hHeld ?_
  refine tkS 14 hHeld ?_ (hy := by intro wq hSw; have z1 := cell_old hSw HC.out.2; clear hSw; go_simp; try with_reducible rfl)
  refine tkS 15 hHeld ?_
  refine tkS 16 hHeld ?_
  refine wpAnyH_done (by kernel_rfl) ?_ _
  refine NoPanic.normal ?_
  try simp only [Exit.then]
  go_wp2_with fail
  go_ret
  exact ⟨rfl, hHeld⟩
theorem keptS_asks (bx B0 : Nat) (A : Option Addr) (c : Nat) (ks : List Bool) (hks : ks.length ≤ 9223372036854775807) (s : Dsk) (hs : s.secs.length ≤ 65536) :
  Asks 30 #[.pointer (some ⟨bx, 0, none⟩)] s (keptB ks false) B0 [] (fun _ W => KeepS W bx B0 A c ks ∧ B0 ≤ W.heap.size) where
 enters := fun _ _ => by kernel_rfl
 abide := fun _ w1 w2 h hk => ⟨h.1.keep hk, by
  have hl := h.1.lt
  have h1 := hk (B0 - 1) (by omega)
  rw [Array.getElem?_eq_getElem (show B0 - 1 < w1.heap.size by have := h.2; omega)] at h1
  have := (Array.getElem?_eq_some_iff.1 h1).1
  omega⟩
 typed := fun _ _ _ g hg => by simp at hg
 skip := fun _ _ _ _ h => h
 ask := fun k w1 hk _ h => (keptS_ask bx B0 A c ks hks k (by omega) w1 h.1).mono fun e w' ⟨he, hw⟩ => ⟨he, ⟨h.1.keep fun j hj => hw.block j (by omega), Nat.le_trans h.2 hw.size⟩, Turn.of_below _ hw⟩
theorem dk_keepS {d L : Nat} {s : Dsk} {w : World} (bx : Nat) (A : Option Addr) (c : Nat) (ks : List Bool) (hks : ks.length ≤ 9223372036854775807) (h : DkAt w d L s) (hk : KeepS w bx w.heap.size A c ks) :
  Calls Tryz.prog 27 #[.pointer (some ⟨d, 0, none⟩), .func (.func 30) #[] #[.pointer (some ⟨bx, 0, none⟩)]] w fun e w' =>
   ∃ d' L', e = .returned (.pointer (some ⟨d', 0, none⟩)) ∧ DkAt w' d' L' (s.crash (keptB ks false)) ∧ w.heap.size ≤ d' ∧ w.heap.size ≤ L' ∧ Old w w' := by
 have hn := h.n
 obtain ⟨xs, h⟩ := h
 refine (crash_any d L _ _ xs s (keptB ks false) [] _ w h (keptS_asks bx w.heap.size A c ks hks s hn.2) ⟨hk, Nat.le_refl _⟩ (by simp) (by simp) (by simp)).mono ?_
 rintro e w' ⟨rfl, hy, _, hT⟩
 exact ⟨_, _, rfl, hy, by omega, Nat.le_refl _, hT.below⟩
theorem KeepS.old {W W' : World} {bx : Nat} {A : Option Addr} {c : Nat} {ks : List Bool} (h : KeepS W bx W.heap.size A c ks) (hb : Old W W') : KeepS W' bx W'.heap.size A c ks := by
 have h2 := h.keep (W' := W') (fun j hj => hb.block j hj)
 refine ⟨h2.c0, ?_, Nat.lt_of_lt_of_le h2.lt hb.size⟩
 rcases h2.rd with h | ⟨b, off, h3, h4, h5⟩
 ·exact .inl h
 ·exact .inr ⟨b, off, h3, Nat.lt_of_lt_of_le h4 hb.size, h5⟩
theorem ChOwn.turn {w w' : World} {base : Nat} {v : Value} {ps : List PC} {S : List Nat} (h : ChOwn w base v ps) (ht : Turn S w w') (hS : ∀ g ∈ S, w.heap.size ≤ g ∨ ∃ t cs, Blk w g t cs ∧ t ≠ 5 ∧ t ≠ 34) : ChOwn w' base v ps := by
 refine ⟨h.1.turn ht (fun g hg hm => ?_), fun p hp => ⟨(h.2 p hp).1.turn ht (fun g hg hm => ?_), (h.2 p hp).2⟩⟩
 ·rcases hS g hm with h1 | ⟨t, cs, hb, _, h2⟩
  ·have := (h.1.lt hg).2; omega
  ·exact h.1.ne hb h2 hg
 ·rcases hS g hm with h1 | ⟨t, cs, hb, h2, _⟩
  ·have := ((h.2 p hp).1.lt hg).2; omega
  ·exact (h.2 p hp).1.ne hb h2 hg
section
variable {w w' : World} {x v d L b n S k : Nat} {s : Dsk} {ms : List (List UInt8)} {M : List SRec}
theorem Stq.types (h : Stq w x v d L b n S s ms M) : ∀ g ∈ [x, d, L, v], ∃ t cs, Blk w g t cs ∧ t ≠ 5 ∧ t ≠ 53 ∧ t ≠ 34 := by
 intro g hg
 obtain ⟨⟨c1, h1⟩, c2, h2⟩ := h.mnt.D.typed
 rcases List.mem_cons.1 hg with rfl | hg
 ·exact ⟨_, _, h.blk, by decide, by decide, by decide⟩
 rcases List.mem_cons.1 hg with rfl | hg
 ·exact ⟨_, _, h1, by decide, by decide, by decide⟩
 rcases List.mem_cons.1 hg with rfl | hg
 ·exact ⟨_, _, h2, by decide, by decide, by decide⟩
 rw [List.mem_singleton] at hg
 subst hg
 exact ⟨_, _, h.mnt.V, by decide, by decide, by decide⟩
theorem Stq.fused (h : Stq w x v d L b n S s ms M) (q : Int) (hD : DkAt w' d L (s.fuse q)) (ht : Turn [d, L] w w') : Stq w' x v d L b n S (s.fuse q) ms M := by
 have hx := h.mnt.notx h.blk
 have hb := h.mnt.notb h.map
 refine ⟨h.blk.turn ht (fun hm => hx (by simp at hm ⊢; rcases hm with e | e <;> simp [e])), ⟨hD, Blk.turn h.mnt.V ht (fun hv => ?_), good_fuse h.mnt.G q, (fuse_n s q).trans h.mnt.sn⟩, h.map.turn ht (fun hm => hb (by simp at hm ⊢; rcases hm with e | e <;> simp [e])) (fun g hg => h.mnt.rows g (by simp at hg ⊢; rcases hg with e | e <;> simp [e])), h.fine, h.vol⟩
 obtain ⟨⟨_, k1⟩, _, k2⟩ := h.mnt.D.typed
 rcases List.mem_cons.1 hv with rfl | hv
 ·exact Blk.ne_ k1 h.mnt.V (by decide) rfl
 ·rw [List.mem_singleton] at hv
  subst hv
  exact Blk.ne_ k2 h.mnt.V (by decide) rfl
def Lies (w : World) (d L S cn : Nat) (s : Dsk) (M : List SRec) : Prop := ∃ ms, Dev w d L cn s S ms ∧ Vol ms M ∧ Fine M ∧ Rising M ∧ sload M ≤ 64 * S
theorem Lies.below {w w' : World} {d L S cn : Nat} {s : Dsk} {M : List SRec} (h : Lies w d L S cn s M) (hb : Old w w') : Lies w' d L S cn s M := by
 obtain ⟨ms, h1, h2⟩ := h
 exact ⟨ms, h1.below hb, h2⟩
theorem Lies.open_ {w : World} {d L S cn : Nat} {s : Dsk} {M : List SRec} (h : Lies w d L S cn s M) (hn : cn ≤ 100) (h0 : 64 ≤ S) (h1 : S ≤ 163) (hK : KAt w) :
  Calls Tryz.prog 13 #[.pointer (some ⟨d, 0, none⟩)] w fun e w' => ∃ x v b ms, e = .returned (.tuple #[.pointer (some ⟨x, 0, none⟩), .int .i64 0]) ∧ StAt w' x v d L b cn S s ms M ∧ Old w w' := by
 obtain ⟨ms, hD, hV, hF, hR, hl⟩ := h
 refine (stopen_any hD hn h0 (by omega) hV hF hR hl (by have := num_load M; omega) hK).mono ?_
 rintro e w' ⟨x, v, b, rfl, hS, _, _, _, hO⟩
 exact ⟨x, v, b, ms, rfl, hS, hO⟩
theorem lies_same (h : Stq w x v d L b n S s ms M) (hl : sload M ≤ 64 * S) (kp : Nat → Bool) {w9 : World} {d9 L9 : Nat} (hD : DkAt w9 d9 L9 (s.crash kp)) : Lies w9 d9 L9 S n (s.crash kp) M := by
 obtain ⟨f1, f2, _⟩ := crash_fresh s kp
 exact ⟨ms, ⟨hD, h.mnt.G.crash kp, (crash_n s kp).trans h.mnt.sn, f2, f1⟩, h.vol, h.fine, h.map.rise, hl⟩
theorem lies_crash (h : Stq w x v d L b n S s ms M) (hl : sload M ≤ 64 * S) (hf : FOk s k) (h0 : 64 ≤ S) (h1 : S ≤ 1000) {cs : List PC} (hok : cs.all okC = true) (hld : sload (schgs M cs) ≤ 64 * S) {ok : Bool} {s5 : Dsk}
  (hs : s.turnW headB n (after ms (putsP ms (pagesB (schgs M cs)) (pageN (pagesB (schgs M cs))))) = (ok, s5)) (kp : Nat → Bool) {w9 : World} {d9 L9 : Nat} (hD : DkAt w9 d9 L9 (s5.crash kp)) :
  ∃ cn M9, Lies w9 d9 L9 S cn (s5.crash kp) M9 ∧ cn ≤ n + 1 ∧ (M9 = M ∨ M9 = schgs M cs) ∧ (ok = true → M9 = schgs M cs) := by
 have hgl := h.mnt.G.len
 obtain ⟨h2, _, h3, h4⟩ := turn_crash h.mnt.G hf (by rw [after_len]; exact hgl) hs
 obtain ⟨f1, f2, _⟩ := crash_fresh s5 kp
 have hfi := schgs_fine (fun p hp => ⟨h.fine.ids p hp, h.fine.len p hp⟩) hok
 have hn9 : (s5.crash kp).n = S := (crash_n s5 kp).trans (h2.trans h.mnt.sn)
 rw [h.mnt.sn] at hgl
 have hV : Vol (after ms (putsP ms (pagesB (schgs M cs)) (pageN (pagesB (schgs M cs))))) (schgs M cs) := Vol.after h.vol.full (by rw [hgl]; exact room_fits hld h0)
 have new : Good headB (s5.crash kp) (n + 1) (after ms (putsP ms (pagesB (schgs M cs)) (pageN (pagesB (schgs M cs))))) → Lies w9 d9 L9 S (n + 1) (s5.crash kp) (schgs M cs) := fun g =>
  ⟨_, ⟨hD, g, hn9, f2, f1⟩, hV, ⟨fun p hp => (hfi p hp).1, fun p hp => (hfi p hp).2, by omega⟩, schgs_rise h.map.rise cs, hld⟩
 cases ok with
 | true => exact ⟨n + 1, schgs M cs, new (h3 rfl kp), Nat.le_refl _, .inr rfl, fun _ => rfl⟩
 | false =>
  rcases h4 kp with g | g
  ·exact ⟨n, M, ⟨ms, ⟨hD, g, hn9, f2, f1⟩, h.vol, h.fine, h.map.rise, hl⟩, by omega, .inl rfl, fun e => by cases e⟩
  ·exact ⟨n + 1, schgs M cs, new g, Nat.le_refl _, .inr rfl, fun e => by cases e⟩
end
theorem comV_zero {M : List SRec} {ps : List PC} {r : Nat} (h : comV M ps r = 0) : ps.all okC = true ∧ sload (schgs M ps) ≤ r := by
 unfold comV at h
 cases hok : ps.all okC with
 | false => rw [hok, if_neg (by decide)] at h; omega
 | true =>
  rw [hok, if_pos rfl] at h
  refine ⟨rfl, ?_⟩
  by_cases hld : r < sload (schgs M ps)
  ·rw [if_pos hld] at h; exact absurd h (by decide)
  ·omega
structure CrB (w2 W : World) (S : Nat) (A A' : Option Addr) (m c m' c' : Nat) (rs rs' : List RcV) : Prop where
 R : RcAt W 0 (.slice A m c) rs
 R' : RcAt W 0 (.slice A' m' c') rs'
 K : KAt W
 old : Old w2 W
 l : sload (recs rs) ≤ 64 * S
 l' : sload (recs rs') ≤ 64 * S
theorem CrB.below {w2 W W' : World} {S m c m' c' : Nat} {A A' : Option Addr} {rs rs' : List RcV} (h : CrB w2 W S A A' m c m' c' rs rs') (hb : Old W W') : CrB w2 W' S A A' m c m' c' rs rs' := ⟨h.R.below hb, h.R'.below hb, h.K.below hb, Old.trans h.old hb, h.l, h.l'⟩
set_option maxHeartbeats 16000000 in
theorem storeCrash_any (z : Int) (A : Option Addr) (N c : Nat) (css : List (List IV)) (Al : Option Addr) (ml cl : Nat) (ins : List IV) (F : Int) (Ak : Option Addr) (mk ck : Nat) (ks : List Bool) (w : World) (hK : KAt w)
  (hn0 : -9223372036854775808 ≤ z) (hn1 : z ≤ 9223372036854775807) (hc : CssAt w A N css) (hN : (N : Int) ≤ 9223372036854775807) (hl : CsAt w Al ml ins) (hml : (ml : Int) ≤ 9223372036854775807) (hF1 : F ≤ 9223372036854775807)
  (hk : ks.length = mk ∧ BoolsAt w Ak ks) (hmk : (mk : Int) ≤ 9223372036854775807) :
  Calls Tryz.prog 8 #[.int .i64 z, .slice A N c, .slice Al ml cl, .int .i64 F, .slice Ak mk ck] w fun e w' => e = .returned (.bool true) ∧ Old w w' := by
 obtain ⟨w1, hw1⟩ : ∃ w1, w.alloc (.cells #[.slice Ak mk ck] 62) = w1 := ⟨_, rfl⟩
 have hO1 : Old w w1 := by rw [← hw1]; exact (Old.refl _).alloc _
 have hKp : KeepS w1 w.heap.size w1.heap.size Ak ck ks := by
  have hb : Blk w1 w.heap.size 62 #[.slice Ak mk ck] := by rw [← hw1]; exact Blk.new _ _ _
  have c0 := hb.cell 0
  simp only [List.getElem?_toArray, List.getElem?_cons_zero] at c0
  rw [← hk.1] at c0
  exact ⟨c0, hk.2.below hO1, hb.lt⟩
 have hsz := fun W => lsize_any z hn0 hn1 W
 obtain ⟨hS0, hS1⟩ := sizeS_in z
 obtain ⟨S, hS⟩ : ∃ S, sizeS z = S := ⟨_, rfl⟩
 simp only [hS] at hsz
 rw [hS] at hS0 hS1
 obtain ⟨T, hT⟩ : ∃ T, 64 * S = T := ⟨_, rfl⟩
 have hbg := stbegun_any w1 (hK.below hO1)
 have hmd := fun W (ho : Old w1 W) => stmade_any S A N c css W ((hK.below hO1).below ho) hS0 (by omega) ((hc.below hO1).below ho) hN
 have HW := Lib.hid (And.intro hO1 (And.intro hKp (And.intro (hl.below hO1) (And.intro hml (And.intro (show ks.length ≤ 9223372036854775807 by rw [hk.1]; omega) (And.intro hS0 (And.intro hS1 hT)))))))
 have HW1 := Lib.hid hw1
 have HFU := Lib.hid hF1
 clear hK hn0 hn1 hS hc hN hS0 hS1 hl hml hk hmk hO1 hKp hT hw1 hF1
 go_enter Tryz.func8, Tryz.ntmps8
 go_wp2_with fail
 rw [HW1.out]
 refine hbg.mono ?_
 rintro e w2 ⟨rfl, hO2⟩
 have hmd2 := hmd w2 hO2
 have H2 := Lib.hid hO2
 clear hO2 hbg hmd
 go_wp2_with fail
 refine (hsz w2).mono ?_
 rintro e w2b ⟨rfl, rfl⟩
 clear hsz
 go_wp2_with fail
 refine hmd2.mono ?_
 rintro e w3 ⟨d, L, x, v, b, n, s, ms, A2, m2, c2, rs, rfl, hI⟩
 have hrm := room_any x v d L b n S s ms (recs rs) w3 hI.st
 rw [HW.out.2.2.2.2.2.2.2] at hrm
 have hlc := lcommit_any A2 Al m2 c2 ml cl T rs ins w3 hI.M hI.st.map.rise (by have h1 := hI.st.room; have h2 := HW.out.2.2.2.2.2.2.1; omega) (HW.out.2.2.1.below (Old.trans H2.out hI.old)) HW.out.2.2.2.1 (by have h1 := HW.out.2.2.2.2.2.2.2; have h2 := HW.out.2.2.2.2.2.2.1; omega)
 have H3 := Lib.hid hI
 clear hmd2 hI
 go_wp2_with fail
 refine hrm.mono ?_
 rintro e w3b ⟨rfl, rfl⟩
 go_wp2_with fail
 refine hlc.mono ?_
 rintro e w4 ⟨A1, n1, c1, ps, A4, m4, c4, rs', rfl, hOw, hps, hR, hrs, hO4⟩
 obtain ⟨cv, hcv⟩ : ∃ cv, comV (recs rs) ps T = cv := ⟨_, rfl⟩
 rw [hcv] at hrs ⊢
 have hps2 := IV_len hps
 have hnl : n1 = ps.length := hOw.1.len
 have hI4 := H3.out.below hO4
 have H4 := Lib.hid (And.intro hI4 (And.intro hOw (And.intro hR (And.intro hps2 hnl))))
 clear hrm hlc hOw hps hR hO4 hps2 hnl hI4
 by_cases hc0 : cv = 0
 case neg =>
  have q1 : (cv != 0) = true := by simpa using hc0
  have HO := Lib.hid (Old.trans HW.out.1 (Old.trans H2.out H4.out.1.old))
  clear hrs hcv hc0
  go_wp2_with fail
  go_ret
  exact ⟨rfl, HO.out⟩
 case pos =>
 subst hc0
 have hz := comV_zero hcv
 rw [if_pos rfl] at hrs
 have HZ := Lib.hid (And.intro hrs hz)
 clear hrs hcv hz
 by_cases hFn : F < 0
 case pos =>
  have hFd : decide (F < 0) = true := decide_eq_true hFn
  have HO := Lib.hid (Old.trans HW.out.1 (Old.trans H2.out H4.out.1.old))
  clear hFn
  go_wp2_with fail
  go_ret
  exact ⟨rfl, HO.out⟩
 case neg =>
 have hFd : decide (F < 0) = false := decide_eq_false hFn
 obtain ⟨k, rfl⟩ : ∃ k : Nat, F = k := ⟨F.toNat, by omega⟩
 obtain ⟨q, hq⟩ : ∃ q, (k : Int).tmod 300 = q := ⟨_, rfl⟩
 have HQ := Lib.hid (show q < 1000 by rw [← hq, Int.tmod_eq_emod_of_nonneg (by omega)]; omega)
 have hqw : IntKind.i64.wrap q = q := IntWalk.i64_in _ (by rw [← hq, Int.tmod_eq_emod_of_nonneg (by omega)]; omega)
 have hfu := dk_fuse d L s q w4 H4.out.1.st.mnt.D
 clear hFn
 go_wp2_with fail
 clear hq hqw hFd
 refine hfu.mono ?_
 rintro e w5 ⟨rfl, hD5, hT5⟩
 have hq5 := H4.out.1.st.q.fused q hD5 hT5
 have hF5 := fok_fuse H4.out.1.F H4.out.1.st.mnt.de q HQ.out
 obtain ⟨s5, hs5⟩ : ∃ s5, s.fuse q = s5 := ⟨_, rfl⟩
 rw [hs5] at hq5 hF5
 have hty : ∀ g ∈ [d, L], ∃ t cs, Blk w4 g t cs ∧ t ≠ 5 ∧ t ≠ 53 ∧ t ≠ 34 := fun g hg => H4.out.1.st.q.types g (by simp at hg ⊢; rcases hg with e | e <;> simp [e])
 have hO5 : Old w2 w5 := below_turn H4.out.1.old hT5 (by have h1 := H4.out.1.ld; have h2 := H4.out.1.lL; simp; omega) H4.out.1.old.size
 have hK5 : KAt w5 := H4.out.1.K.mnq H4.out.1.st.mnt.q (hT5.more (by simp))
 have hB5 : CrB w2 w5 S A2 A4 m2 c2 m4 c4 rs rs' := ⟨H4.out.1.M.turn hT5 (fun g hg => .inr (by obtain ⟨t, cs, h1, h2, h3, _⟩ := hty g hg; exact ⟨t, cs, h1, h2, h3⟩)), H4.out.2.2.1.turn hT5 (fun g hg => .inr (by obtain ⟨t, cs, h1, h2, h3, _⟩ := hty g hg; exact ⟨t, cs, h1, h2, h3⟩)), hK5, hO5,
  H4.out.1.st.room, by rw [HZ.out.1, HW.out.2.2.2.2.2.2.2]; exact HZ.out.2.2⟩
 have hC5 : ChOwn w5 w3.heap.size (.slice A1 n1 c1) ps := H4.out.2.1.turn hT5 (fun g hg => .inr (by obtain ⟨t, cs, h1, h2, _, h3⟩ := hty g hg; exact ⟨t, cs, h1, h2, h3⟩))
 have H5 := Lib.hid (And.intro hq5 (And.intro hF5 (And.intro hB5 hC5)))
 clear hfu hD5 hT5 hs5 hq5 hF5 hty hO5 hK5 hB5 hC5
 rcases Nat.eq_zero_or_pos n1 with hn1 | hn1
 ·subst hn1
  have hpn : ps = [] := List.eq_nil_of_length_eq_zero (by have := H4.out.2.2.2.2; omega)
  subst hpn
  have hcm := stcommit_none x A1 c1 w5 H5.out.2.2.2.at_
  go_wp2_with fail
  refine hcm.mono ?_
  rintro e w6 ⟨rfl, hO6⟩
  have hL : ∀ w9 d9 L9, DkAt w9 d9 L9 (s5.crash (keptB ks false)) → ∃ cn M9, Lies w9 d9 L9 S cn (s5.crash (keptB ks false)) M9 ∧ cn ≤ n + 1 ∧ (M9 = recs rs ∨ M9 = recs rs') ∧ M9 = recs rs' := fun w9 d9 L9 hD =>
   ⟨n, recs rs, lies_same H5.out.1 H4.out.1.st.room _ hD, by omega, .inl rfl, by rw [HZ.out.1]; rfl⟩
  have H6 := Lib.hid (And.intro (H5.out.1.mnt.D.below hO6) (And.intro (H5.out.2.2.1.below hO6) hL))
  clear hcm hO6 hL
  go_wp2_with fail
  have hcr := dk_keepS w.heap.size Ak ck ks HW.out.2.2.2.2.1 H6.out.1 (HW.out.2.1.old (Old.trans H2.out H6.out.2.1.old))
  refine hcr.mono ?_
  rintro e w9 ⟨d9, L9, rfl, hD9, _, _, hO9⟩
  have hB9 := H6.out.2.1.below hO9
  obtain ⟨cn, M9, hLi, hcn, _, hM9⟩ := H6.out.2.2 w9 d9 L9 hD9
  have hop := hLi.open_ (by have := H4.out.1.nk; omega) HW.out.2.2.2.2.2.1 HW.out.2.2.2.2.2.2.1 hB9.K
  have hdn : decide (M9 = recs rs') = true := decide_eq_true hM9
  obtain ⟨ob, hob⟩ : ∃ ob, decide (M9 = recs rs) = ob := ⟨_, rfl⟩
  have H9 := Lib.hid (And.intro hB9 (And.intro hLi (And.intro hdn (And.intro hob (show cn ≤ 100 by have := H4.out.1.nk; omega)))))
  clear hcr hD9 hO9 hB9 hLi hcn hdn hM9
  go_wp2_with fail
  refine hop.mono ?_
  rintro e w10 ⟨x10, v10, b10, ms10, rfl, hS10, hO10⟩
  have hi1 := is_at hS10 (by have := HW.out.2.2.2.2.2.2.1; omega) (H9.out.1.R.below hO10) (by have h1 := H9.out.1.l; have h2 := HW.out.2.2.2.2.2.2.1; omega)
  rw [H9.out.2.2.2.1] at hi1
  have H10 := Lib.hid (And.intro hS10 (And.intro (H9.out.1.below hO10) (H9.out.2.1.below hO10)))
  clear hop hS10 hO10
  go_wp2_with fail
  refine hi1.mono ?_
  rintro e w11 ⟨rfl, hO11⟩
  have hi2 := is_at (H10.out.1.below hO11) (by have := HW.out.2.2.2.2.2.2.1; omega) (H10.out.2.1.R'.below hO11) (by have h1 := H9.out.1.l'; have h2 := HW.out.2.2.2.2.2.2.1; omega)
  rw [H9.out.2.2.1] at hi2
  have H11 := Lib.hid (And.intro (H10.out.2.1.below hO11) (H10.out.2.2.below hO11))
  clear hi1 hO11
  go_wp2_with fail
  refine hi2.mono ?_
  rintro e w12 ⟨rfl, hO12⟩
  have hB12 := H11.out.1.below hO12
  have hL12 := H11.out.2.below hO12
  have hop := hL12.open_ H9.out.2.2.2.2 HW.out.2.2.2.2.2.1 HW.out.2.2.2.2.2.2.1 hB12.K
  have H12 := Lib.hid hB12
  clear hi2 hO12 hB12 hL12
  clear hob
  cases ob
  all_goals
   go_wp2_with fail
   refine hop.mono ?_
   rintro e w13 ⟨x13, v13, b13, ms13, rfl, hS13, hO13⟩
   have hi3 := is_at hS13 (by have := HW.out.2.2.2.2.2.2.1; omega) (H12.out.R'.below hO13) (by have h1 := H9.out.1.l'; have h2 := HW.out.2.2.2.2.2.2.1; omega)
   rw [H9.out.2.2.1] at hi3
   have H13 := Lib.hid (H12.out.below hO13)
   clear hop hS13 hO13
   go_wp2_with fail
   refine hi3.mono ?_
   rintro e w14 ⟨rfl, hO14⟩
   have H14 := Lib.hid (Old.trans H13.out.old hO14)
   clear hi3 hO14
   go_wp2_with fail
   go_ret
   exact ⟨rfl, Old.trans HW.out.1 (Old.trans H2.out H14.out)⟩
 ·have hcm := stcommit_gen H5.out.1 A1 n1 c1 ps H5.out.2.2.2.at_ hn1 (by have h1 := H4.out.2.2.2.1.1; have h2 := H4.out.2.2.2.2; omega) HZ.out.2.1 (by rw [HW.out.2.2.2.2.2.2.2]; exact HZ.out.2.2) H5.out.2.2.1.K (by have := H4.out.1.nk; omega) H5.out.2.1 (by omega) HW.out.2.2.2.2.2.1 (by have := HW.out.2.2.2.2.2.2.1; omega)
   (by have h1 := num_load (recs rs); have h2 := H5.out.2.2.1.l; have h3 := HW.out.2.2.2.2.2.2.1; omega) (fun q hq => by have := H4.out.2.2.2.1.2 q hq; omega)
  go_wp2_with fail
  refine hcm.mono ?_
  rintro e w6 ⟨ok, s6, b6, hts, rfl, hD6, hV6, hX6, hM6, hM6o, hb6, hK6, hT6⟩
  have hL : ∀ w9 d9 L9, DkAt w9 d9 L9 (s6.crash (keptB ks false)) → ∃ cn M9, Lies w9 d9 L9 S cn (s6.crash (keptB ks false)) M9 ∧ cn ≤ n + 1 ∧ (M9 = recs rs ∨ M9 = recs rs') ∧ (ok = true → M9 = recs rs') := fun w9 d9 L9 hD => by
   rw [HZ.out.1]
   exact lies_crash H5.out.1 H4.out.1.st.room H5.out.2.1 HW.out.2.2.2.2.2.1 (by have := HW.out.2.2.2.2.2.2.1; omega) HZ.out.2.1 (by rw [HW.out.2.2.2.2.2.2.2]; exact HZ.out.2.2) hts _ hD
  have hty : ∀ g ∈ [x, d, L, v], w5.heap.size ≤ g ∨ ∃ t cs, Blk w5 g t cs ∧ t ≠ 5 ∧ t ≠ 53 := fun g hg => .inr (by obtain ⟨t, cs, h1, h2, h3, _⟩ := H5.out.1.types g hg; exact ⟨t, cs, h1, h2, h3⟩)
  have hB6 : CrB w2 w6 S A2 A4 m2 c2 m4 c4 rs rs' := ⟨H5.out.2.2.1.R.turn hT6 hty, H5.out.2.2.1.R'.turn hT6 hty, hK6, below_turn H5.out.2.2.1.old hT6 (by have h1 := H4.out.1.ld; have h2 := H4.out.1.lL; have h3 := H4.out.1.lx; have h4 := H4.out.1.lv; simp; omega) H5.out.2.2.1.old.size, H5.out.2.2.1.l, H5.out.2.2.1.l'⟩
  cases ok with
  | true =>
   have H6 := Lib.hid (And.intro hD6 (And.intro hB6 hL))
   clear hcm hD6 hV6 hX6 hM6 hM6o hb6 hK6 hT6 hts hty hB6 hL
   simp only [if_true]
   go_wp2_with fail
   have hcr := dk_keepS w.heap.size Ak ck ks HW.out.2.2.2.2.1 H6.out.1 (HW.out.2.1.old (Old.trans H2.out H6.out.2.1.old))
   refine hcr.mono ?_
   rintro e w9 ⟨d9, L9, rfl, hD9, _, _, hO9⟩
   have hB9 := H6.out.2.1.below hO9
   obtain ⟨cn, M9, hLi, hcn, _, hM9⟩ := H6.out.2.2 w9 d9 L9 hD9
   have hM9 := hM9 trivial
   have hop := hLi.open_ (by have := H4.out.1.nk; omega) HW.out.2.2.2.2.2.1 HW.out.2.2.2.2.2.2.1 hB9.K
   have hdn : decide (M9 = recs rs') = true := decide_eq_true hM9
   obtain ⟨ob, hob⟩ : ∃ ob, decide (M9 = recs rs) = ob := ⟨_, rfl⟩
   have H9 := Lib.hid (And.intro hB9 (And.intro hLi (And.intro hdn (And.intro hob (show cn ≤ 100 by have := H4.out.1.nk; omega)))))
   clear hcr hD9 hO9 hB9 hLi hcn hdn hM9
   go_wp2_with fail
   refine hop.mono ?_
   rintro e w10 ⟨x10, v10, b10, ms10, rfl, hS10, hO10⟩
   have hi1 := is_at hS10 (by have := HW.out.2.2.2.2.2.2.1; omega) (H9.out.1.R.below hO10) (by have h1 := H9.out.1.l; have h2 := HW.out.2.2.2.2.2.2.1; omega)
   rw [H9.out.2.2.2.1] at hi1
   have H10 := Lib.hid (And.intro hS10 (And.intro (H9.out.1.below hO10) (H9.out.2.1.below hO10)))
   clear hop hS10 hO10
   go_wp2_with fail
   refine hi1.mono ?_
   rintro e w11 ⟨rfl, hO11⟩
   have hi2 := is_at (H10.out.1.below hO11) (by have := HW.out.2.2.2.2.2.2.1; omega) (H10.out.2.1.R'.below hO11) (by have h1 := H9.out.1.l'; have h2 := HW.out.2.2.2.2.2.2.1; omega)
   rw [H9.out.2.2.1] at hi2
   have H11 := Lib.hid (And.intro (H10.out.2.1.below hO11) (H10.out.2.2.below hO11))
   clear hi1 hO11
   go_wp2_with fail
   refine hi2.mono ?_
   rintro e w12 ⟨rfl, hO12⟩
   have hB12 := H11.out.1.below hO12
   have hL12 := H11.out.2.below hO12
   have hop := hL12.open_ H9.out.2.2.2.2 HW.out.2.2.2.2.2.1 HW.out.2.2.2.2.2.2.1 hB12.K
   have H12 := Lib.hid hB12
   clear hi2 hO12 hB12 hL12
   clear hob
   cases ob
   all_goals
    go_wp2_with fail
    refine hop.mono ?_
    rintro e w13 ⟨x13, v13, b13, ms13, rfl, hS13, hO13⟩
    have hi3 := is_at hS13 (by have := HW.out.2.2.2.2.2.2.1; omega) (H12.out.R'.below hO13) (by have h1 := H9.out.1.l'; have h2 := HW.out.2.2.2.2.2.2.1; omega)
    rw [H9.out.2.2.1] at hi3
    have H13 := Lib.hid (H12.out.below hO13)
    clear hop hS13 hO13
    go_wp2_with fail
    refine hi3.mono ?_
    rintro e w14 ⟨rfl, hO14⟩
    have H14 := Lib.hid (Old.trans H13.out.old hO14)
    clear hi3 hO14
    go_wp2_with fail
    go_ret
    exact ⟨rfl, Old.trans HW.out.1 (Old.trans H2.out H14.out)⟩
  | false =>
   simp only [Bool.false_eq_true, if_false] at hX6 ⊢
   have his := lis_any hX6 hM6o H5.out.1.fine A2 m2 c2 rs hB6.R (by have h1 := hB6.l; have h2 := HW.out.2.2.2.2.2.2.1; omega) (by have h1 := num_load (recs rs); have h2 := hB6.l; have h3 := HW.out.2.2.2.2.2.2.1; omega)
   rw [decide_eq_true rfl] at his
   have H6b := Lib.hid (And.intro hD6 (And.intro hB6 hL))
   clear hcm hD6 hV6 hX6 hM6 hM6o hb6 hK6 hT6 hts hty hB6 hL
   go_wp2_with fail
   refine his.mono ?_
   rintro e w7 ⟨rfl, hO7⟩
   have H6 := Lib.hid (And.intro (H6b.out.1.below hO7) (And.intro (H6b.out.2.1.below hO7) H6b.out.2.2))
   clear his hO7 H6b
   go_wp2_with fail
   have hcr := dk_keepS w.heap.size Ak ck ks HW.out.2.2.2.2.1 H6.out.1 (HW.out.2.1.old (Old.trans H2.out H6.out.2.1.old))
   refine hcr.mono ?_
   rintro e w9 ⟨d9, L9, rfl, hD9, _, _, hO9⟩
   have hB9 := H6.out.2.1.below hO9
   obtain ⟨cn, M9, hLi, hcn, hor, _⟩ := H6.out.2.2 w9 d9 L9 hD9
   by_cases hM9 : M9 = recs rs'
   case pos =>
    have hop := hLi.open_ (by have := H4.out.1.nk; omega) HW.out.2.2.2.2.2.1 HW.out.2.2.2.2.2.2.1 hB9.K
    have hdn : decide (M9 = recs rs') = true := decide_eq_true hM9
    obtain ⟨ob, hob⟩ : ∃ ob, decide (M9 = recs rs) = ob := ⟨_, rfl⟩
    have H9 := Lib.hid (And.intro hB9 (And.intro hLi (And.intro hdn (And.intro hob (show cn ≤ 100 by have := H4.out.1.nk; omega)))))
    clear hcr hD9 hO9 hB9 hLi hcn hdn hM9
    go_wp2_with fail
    refine hop.mono ?_
    rintro e w10 ⟨x10, v10, b10, ms10, rfl, hS10, hO10⟩
    have hi1 := is_at hS10 (by have := HW.out.2.2.2.2.2.2.1; omega) (H9.out.1.R.below hO10) (by have h1 := H9.out.1.l; have h2 := HW.out.2.2.2.2.2.2.1; omega)
    rw [H9.out.2.2.2.1] at hi1
    have H10 := Lib.hid (And.intro hS10 (And.intro (H9.out.1.below hO10) (H9.out.2.1.below hO10)))
    clear hop hS10 hO10
    go_wp2_with fail
    refine hi1.mono ?_
    rintro e w11 ⟨rfl, hO11⟩
    have hi2 := is_at (H10.out.1.below hO11) (by have := HW.out.2.2.2.2.2.2.1; omega) (H10.out.2.1.R'.below hO11) (by have h1 := H9.out.1.l'; have h2 := HW.out.2.2.2.2.2.2.1; omega)
    rw [H9.out.2.2.1] at hi2
    have H11 := Lib.hid (And.intro (H10.out.2.1.below hO11) (H10.out.2.2.below hO11))
    clear hi1 hO11
    go_wp2_with fail
    refine hi2.mono ?_
    rintro e w12 ⟨rfl, hO12⟩
    have hB12 := H11.out.1.below hO12
    have hL12 := H11.out.2.below hO12
    have hop := hL12.open_ H9.out.2.2.2.2 HW.out.2.2.2.2.2.1 HW.out.2.2.2.2.2.2.1 hB12.K
    have H12 := Lib.hid hB12
    clear hi2 hO12 hB12 hL12
    clear hob hor
    cases ob
    all_goals
     go_wp2_with fail
     refine hop.mono ?_
     rintro e w13 ⟨x13, v13, b13, ms13, rfl, hS13, hO13⟩
     have hi3 := is_at hS13 (by have := HW.out.2.2.2.2.2.2.1; omega) (H12.out.R'.below hO13) (by have h1 := H9.out.1.l'; have h2 := HW.out.2.2.2.2.2.2.1; omega)
     rw [H9.out.2.2.1] at hi3
     have H13 := Lib.hid (H12.out.below hO13)
     clear hop hS13 hO13
     go_wp2_with fail
     refine hi3.mono ?_
     rintro e w14 ⟨rfl, hO14⟩
     have H14 := Lib.hid (Old.trans H13.out.old hO14)
     clear hi3 hO14
     go_wp2_with fail
     go_ret
     exact ⟨rfl, Old.trans HW.out.1 (Old.trans H2.out H14.out)⟩
   case neg =>
    have hMo : M9 = recs rs := hor.elim id (fun e => absurd e hM9)
    have hop := hLi.open_ (by have := H4.out.1.nk; omega) HW.out.2.2.2.2.2.1 HW.out.2.2.2.2.2.2.1 hB9.K
    have hdn : decide (M9 = recs rs') = false := decide_eq_false hM9
    have hol : decide (M9 = recs rs) = true := decide_eq_true hMo
    obtain ⟨ob, hob⟩ : ∃ ob, decide (M9 = recs rs) = ob := ⟨_, rfl⟩
    have H9 := Lib.hid (And.intro hB9 (And.intro hLi (And.intro hdn (And.intro hob (show cn ≤ 100 by have := H4.out.1.nk; omega)))))
    clear hcr hD9 hO9 hB9 hLi hcn hdn hM9
    go_wp2_with fail
    refine hop.mono ?_
    rintro e w10 ⟨x10, v10, b10, ms10, rfl, hS10, hO10⟩
    have hi1 := is_at hS10 (by have := HW.out.2.2.2.2.2.2.1; omega) (H9.out.1.R.below hO10) (by have h1 := H9.out.1.l; have h2 := HW.out.2.2.2.2.2.2.1; omega)
    rw [H9.out.2.2.2.1] at hi1
    have H10 := Lib.hid (And.intro hS10 (And.intro (H9.out.1.below hO10) (H9.out.2.1.below hO10)))
    clear hop hS10 hO10
    go_wp2_with fail
    refine hi1.mono ?_
    rintro e w11 ⟨rfl, hO11⟩
    have hi2 := is_at (H10.out.1.below hO11) (by have := HW.out.2.2.2.2.2.2.1; omega) (H10.out.2.1.R'.below hO11) (by have h1 := H9.out.1.l'; have h2 := HW.out.2.2.2.2.2.2.1; omega)
    rw [H9.out.2.2.1] at hi2
    have H11 := Lib.hid (And.intro (H10.out.2.1.below hO11) (H10.out.2.2.below hO11))
    clear hi1 hO11
    go_wp2_with fail
    refine hi2.mono ?_
    rintro e w12 ⟨rfl, hO12⟩
    have hB12 := H11.out.1.below hO12
    have hL12 := H11.out.2.below hO12
    have hop := hL12.open_ H9.out.2.2.2.2 HW.out.2.2.2.2.2.1 HW.out.2.2.2.2.2.2.1 hB12.K
    have H12 := Lib.hid hB12
    clear hi2 hO12 hB12 hL12
    obtain rfl : ob = true := hob.symm.trans hol
    clear hol hMo hor
    clear hob
    go_wp2_with fail
    refine hop.mono ?_
    rintro e w13 ⟨x13, v13, b13, ms13, rfl, hS13, hO13⟩
    have hi3 := is_at hS13 (by have := HW.out.2.2.2.2.2.2.1; omega) (H12.out.R.below hO13) (by have h1 := H9.out.1.l; have h2 := HW.out.2.2.2.2.2.2.1; omega)
    rw [H9.out.2.2.2.1] at hi3
    have H13 := Lib.hid (H12.out.below hO13)
    clear hop hS13 hO13
    go_wp2_with fail
    refine hi3.mono ?_
    rintro e w14 ⟨rfl, hO14⟩
    have H14 := Lib.hid (Old.trans H13.out.old hO14)
    clear hi3 hO14
    go_wp2_with fail
    go_ret
    exact ⟨rfl, Old.trans HW.out.1 (Old.trans H2.out H14.out)⟩
end Go.Proofs.YtgjnmpjimhbfgaaGreatDoor
