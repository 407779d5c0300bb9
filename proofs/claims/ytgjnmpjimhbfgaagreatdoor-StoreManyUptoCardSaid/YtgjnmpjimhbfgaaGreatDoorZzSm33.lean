/-
  append to a row that is read and has no room.
-/
import Derived.Test.YtgjnmpjimhbfgaaGreatDoorZzSm27
import Derived.Test.YtgjnmpjimhbfgaaGreatDoorMo3
namespace Go.Proofs.YtgjnmpjimhbfgaaGreatDoor
set_option maxRecDepth 100000
open Go.RowKit
section
variable {α : Type} {E : ETy α}
theorem src_rdC {w : World} {A : Option Addr} {m : Nat} {l : List α} (c : Nat) (h : RdC E w A m l) : Src Tryz.prog E.sz E.ts (.slice A m c) m (E.all l) w := by
 obtain ⟨h1, h2⟩ := h
 cases A with
 | none =>
  have hm : m = 0 := by
   rcases h2 with h | ⟨g, off, h, _⟩
   ·exact h
   ·cases h
  subst hm
  obtain rfl : l = [] := List.eq_nil_of_length_eq_zero h1
  exact Src.ofNil w E.und c
 | some a =>
  refine Src.ofSlice w E.und a m c _ (by rw [E.all_len, h1]) (fun j u hu => ?_) (E.all_one' l)
  rcases h2 with h0 | ⟨g, off, h0, _, h4⟩
  ·have hl : l = [] := List.eq_nil_of_length_eq_zero (h1.trans h0)
   subst hl
   simp [ETy.all] at hu
  ·injection h0 with h0
   subst h0
   rw [Addr.add_mid]
   exact h4 j u hu
theorem run_append_grownE (w : World) (ty : TypeId) (A : Option Addr) (n c : Nat) (l : List α) (h : RdC E w A n l) (A2 : Option Addr) (m c2 : Nat) (l2 : List α) (h2 : RdC E w A2 m l2) (hg : c < n + m) (hlen : l.length + l2.length ≤ 1000000) :
  ∃ C w', (Builtin.append_ #[E.ts, E.ts] ty #[.slice A n c, .slice A2 m c2]).run Tryz.prog w = .ok (.slice (some ⟨w.heap.size, 0, none⟩) (n + m) C) w' ∧ OwnE E w' w.heap.size (.slice (some ⟨w.heap.size, 0, none⟩) (n + m) C) (l ++ l2) ∧ Below w.heap.size w w' := by
 obtain ⟨i0, hi, hz0, hz1, hz2⟩ := info_parts E.info
 have hn := h.1
 have hm := h2.1
 have hb := E.small
 have hbytes : (n + m) * E.bytes ≤ 140737488355328 := by rw [← hn, ← hm]; exact Nat.le_trans (Nat.mul_le_mul hlen hb) (by decide)
 have hold : (Builtin.firstCells i0.size n (.slice A n c)).run Tryz.prog w.drew = .ok (E.all l).toArray w.drew := by rw [hz1]; exact (src_rdC c h).cellsD
 have hs : Src Tryz.prog i0.size E.ts (.slice A2 m c2) m (E.all l2) w := by rw [hz1]; exact src_rdC c2 h2
 have hr := run_append_grow_src (P := Tryz.prog) w E.ts E.ts ty E.t i0 E.z E.und hi hz0 A n c (E.all l) hold _ m (E.all l2) hs hg (by omega) (growslice_fits (by omega) (by rw [hz2]; exact hbytes))
 have hge := grownCap_ge w (n + m) c E.t
 have hcm : grownCap w (n + m) c E.t ≤ maxLen := grownCap_le_maxLen w (n + m) c E.t (by unfold maxLen; omega)
 refine ⟨_, _, hr, ?_, (((Below.refl w.heap.size w).drew).alloc (Nat.le_refl _) _)⟩
 have hll : (l ++ l2).length = n + m := by rw [List.length_append, hn, hm]
 obtain ⟨C, hC⟩ : ∃ C, grownCap w (n + m) c E.t = C := ⟨_, rfl⟩
 rw [hC] at hge hcm ⊢
 unfold OwnE
 rw [hll]
 refine ⟨by rw [E.all_len, hll], .inr ⟨w.heap.size, _, _, rfl, Nat.le_refl _, heap_alloc_new w.drew _, hge, hcm, ?_, ?_⟩⟩
 ·have hz := E.zsz
  simp only [Array.size_append, List.size_toArray, size_zeroCells, List.length_append, E.all_len, hz, hn, hm]
  rw [← Nat.add_mul, ← Nat.add_mul]
  congr 1
  omega
 ·simp only [Array.toList_append]
  have e : (n + m) * E.sz = (E.all l ++ E.all l2).length := by rw [List.length_append, E.all_len, E.all_len, hn, hm, Nat.add_mul]
  rw [e, List.take_left, E.all_append]
end
def manyF (st nb t : Nat) : List SRec := (List.range t).map fun j => (((1 + st * j : Nat) : Int), zs nb)
theorem manyF_succ (st nb t : Nat) : manyF st nb (t + 1) = manyF st nb t ++ [(((1 + st * t : Nat) : Int), zs nb)] := by
 unfold manyF
 rw [List.range_succ, List.map_append]
 rfl
theorem manyF_mem {st nb t : Nat} {p : SRec} (h : p ∈ manyF st nb t) : ∃ j, j < t ∧ p = (((1 + st * j : Nat) : Int), zs nb) := by
 unfold manyF at h
 obtain ⟨j, hj, rfl⟩ := List.mem_map.1 h
 exact ⟨j, List.mem_range.1 hj, rfl⟩
theorem sput_last {M : List SRec} {x : Int} {b : List UInt8} (h : ∀ p ∈ M, p.1 < x) : sput M x b = M ++ [(x, b)] := by
 induction M with
 | nil => rfl
 | cons p M ih =>
  unfold sput
  rw [if_pos (h p (by simp)), ih (fun q hq => h q (by simp [hq]))]
  rfl
theorem many_put (st nb t : Nat) (hst : 1 ≤ st) : schg (manyF st nb t) (((1 + st * t : Nat) : Int)) false (zs nb) = manyF st nb (t + 1) := by
 rw [manyF_succ]
 show sput _ _ _ = _
 refine sput_last fun p hp => ?_
 obtain ⟨j, hj, rfl⟩ := manyF_mem hp
 have h1 : st * j < st * t := Nat.mul_lt_mul_of_pos_left hj (by omega)
 simp only
 omega
theorem many_load (st nb t : Nat) : sload (manyF st nb t) = t * (nb + 8) := by
 induction t with
 | zero => simp [manyF, sload]
 | succ t ih => rw [manyF_succ, sload_snoc, ih, zs_len, Nat.succ_mul]
theorem szRec : (Tryz.prog.info? 53).map (·.size) = some 2 := by kernel_rfl
theorem slice3R (A : Option Addr) (n c : Nat) (hk : n ≤ c) (w : World) : (Instr.slice 50 (.slice A n c) none (some (.int .i64 (n : Int))) (some (.int .i64 (n : Int)))).run Tryz.prog w = .ok (.slice A n n) w := by
 obtain ⟨i, hi, hz⟩ : ∃ i, Tryz.prog.info? 53 = some i ∧ i.size = 2 := by
  cases h : Tryz.prog.info? 53 with
  | none => have := szRec; rw [h] at this; cases this
  | some i => exact ⟨i, rfl, by have := szRec; rw [h] at this; simpa using this⟩
 have e : A.map (·.add 0) = A := by cases A <;> rfl
 unfold Instr.slice
 simp [Sem.run_bind, run_underlying Tryz.underlying50 w, Instr.sliceBounds, Instr.sliceBound, asIntOf, sizeOf, typeInfo, hi]
 rw [if_pos hk]
 simp [e]
section
variable {α : Type} (E : ETy α) {ops : Array Oper} {o : Oper} {a : Act} {w : World} {K : Act → World → Prop} {Q : Exit → Act → World → Prop}
theorem step_app_grownE {F : Prop} (s x : Operand) (A : Option Addr) (n c : Nat) (l : List α) (h1 : RdC E w A n l) (A2 : Option Addr) (m c2 : Nat) (l2 : List α) (h2 : RdC E w A2 m l2) (hg : c < n + m) (hlen : l.length + l2.length ≤ 1000000) (hgd : o.guard = none)
  (ho : o.op = .call { callee := .builtin .append, args := #[s, x], argTypes := #[E.ts, E.ts] }) (hs : a.eval s = .slice A n c) (hx : a.eval x = .slice A2 m c2)
  (h : ∀ (C : Nat) (w' : World), OwnE E w' w.heap.size (.slice (some ⟨w.heap.size, 0, none⟩) (n + m) C) (l ++ l2) → Old w w' → K (a.put o.dst (.slice (some ⟨w.heap.size, 0, none⟩) (n + m) C)) w') : if Region.wanted o (yielded ops a.tmps) = true then Oper.wp Tryz.prog o a w K Q else F := by
 rw [if_pos (by simp [Region.wanted, hgd])]
 obtain ⟨C, w', hr, hO, hB⟩ := run_append_grownE w o.type A n c l h1 A2 m c2 l2 h2 hg hlen
 unfold Oper.wp
 simp only [execOp, ho, resolve, invoke, builtin, Sem.run_bind, Sem.run_pure, Result.andThen_ok, List.map_toArray, List.map_cons, List.map_nil, hs, hx, hr]
 exact h C w' hO hB
end
structure MnI (wo wl : World) (st nb i j : Nat) (M : List SRec) (A1 : Option Addr) (n1 c1 : Nat) (ps : List PC) (Ax : Option Addr) (nx cx : Nat) (rx : List RcV) : Prop where
 own : ChOwn wl wo.heap.size (.slice A1 n1 c1) ps
 mod : RcAt wl 0 (.slice Ax nx cx) rx
 isx : recs rx = manyF st nb (40 * i + j)
 chg : schgs M ps = manyF st nb (40 * i + j)
 num : ps.length = j
 ok : ps.all okC = true
 len : ∀ q ∈ ps, q.l.length ≤ 20000
 old : Old wo wl
set_option maxHeartbeats 16000000 in
theorem storeMany_any (z by_ sp : Int) (w : World) (hK : KAt w) (hn0 : -9223372036854775808 ≤ z) (hn1 : z ≤ 9223372036854775807) :
  Calls Tryz.prog 6 #[.int .i64 z, .int .i64 by_, .int .i64 sp] w fun e w' => e = .returned (.bool true) ∧ Old w w' := by
 have hbg := stbegun_any w hK
 have hsz := fun W => lsize_any z hn0 hn1 W
 obtain ⟨hS0, hS1⟩ := sizeS_in z
 obtain ⟨S, hS⟩ : ∃ S, sizeS z = S := ⟨_, rfl⟩
 simp only [hS] at hsz
 rw [hS] at hS0 hS1
 have hne := neStore
 have HW := Lib.hid hK
 clear hK hn0 hn1 hS
 go_enter Tryz.func6, Tryz.ntmps6
 go_wp2_with fail
 refine hbg.mono ?_
 rintro e w1 ⟨rfl, hO1⟩
 have H1 := Lib.hid hO1
 clear hO1 hbg
 go_wp2_with fail
 refine (hsz w1).mono ?_
 rintro e w1b ⟨rfl, rfl⟩
 clear hsz
 by_cases h0 : by_ < 0
 ·have d0 : decide (by_ < 0) = true := decide_eq_true h0
  go_wp2_with fail
  go_ret
  exact ⟨rfl, H1.out⟩
 have d0 : decide (by_ < 0) = false := decide_eq_false h0
 by_cases h1 : 40 < by_
 ·have d1 : decide (by_ > 40) = true := decide_eq_true h1
  go_wp2_with fail
  go_ret
  exact ⟨rfl, H1.out⟩
 have d1 : decide (by_ > 40) = false := decide_eq_false h1
 by_cases h2 : sp < 1
 ·have d2 : decide (sp < 1) = true := decide_eq_true h2
  go_wp2_with fail
  go_ret
  exact ⟨rfl, H1.out⟩
 have d2 : decide (sp < 1) = false := decide_eq_false h2
 by_cases h3 : 50 < sp
 ·have d3 : decide (sp > 50) = true := decide_eq_true h3
  go_wp2_with fail
  go_ret
  exact ⟨rfl, H1.out⟩
 have d3 : decide (sp > 50) = false := decide_eq_false h3
 obtain ⟨nb, rfl⟩ : ∃ F : Nat, by_ = F := ⟨by_.toNat, by omega⟩
 obtain ⟨st, rfl⟩ : ∃ F : Nat, sp = F := ⟨sp.toNat, by omega⟩
 obtain ⟨T, hT⟩ : ∃ T, 64 * S = T := ⟨_, rfl⟩
 have hnew := dk_new S (by omega) (by omega) w1
 have e1 : (64 : Int) * (S : Int) = (T : Int) := by omega
 have e1w : IntKind.i64.wrap (T : Int) = (T : Int) := IntWalk.i64_in _ (by omega)
 have HN := Lib.hid (And.intro hT (And.intro hS0 (And.intro hS1 (And.intro (show nb ≤ 40 by omega) (And.intro (show 1 ≤ st by omega) (show st ≤ 50 by omega))))))
 clear hT hS0 hS1 h0 h1 h2 h3
 go_wp2_with fail
 clear d0 d1 d2 d3
 refine hnew.mono ?_
 rintro e w2 ⟨d, L, rfl, hD1, hdw, hLw, hO2⟩
 have hfm := stformat_any d L S (Dsk.new S) w2 hD1 (zeroD_new S) (new_n S) HN.out.2.1 (by have := HN.out.2.2.1; omega) (new_fok S) ⟨rfl, rfl⟩ ((HW.out.below H1.out).below hO2)
 have H2 := Lib.hid (And.intro hdw (And.intro hLw hO2))
 clear hD1 hdw hLw hO2 hnew
 go_wp2_with fail
 refine hfm.mono ?_
 rintro e w3 ⟨s2, ms2, rfl, hDv2, hV2, hl2, hF2, hK2, hT2⟩
 have hO3 : Old w1 w3 := below_turn H2.out.2.2 hT2 (by have h1 := H2.out.1; have h2 := H2.out.2.1; simp; omega) H2.out.2.2.size
 have hop := stopen_any hDv2 (by omega) HN.out.2.1 (by have := HN.out.2.2.1; omega) hV2 Fine.nil Rising.nil (by simp [sload]) (by simp) hK2
 have H3 := Lib.hid (And.intro hF2 (And.intro hK2 hO3))
 clear hfm hDv2 hV2 hl2 hF2 hK2 hT2 hO3
 go_wp2_with fail
 refine hop.mono ?_
 rintro e w4 ⟨x, v, b, rfl, hS3, hx3, hv3, hb3, hO4⟩
 have hM4 : MdS w1 w4 S d L x v b 1 0 s2 ms2 none 0 0 [] := ⟨hS3, H3.out.1, H3.out.2.1.below hO4, RcAt.nil _ _, Old.trans H3.out.2.2 hO4, H2.out.1, H2.out.2.1, Nat.le_trans H3.out.2.2.size hx3, Nat.le_trans H3.out.2.2.size hv3, Nat.le_refl _⟩
 have H4 := Lib.hid hM4
 clear hop hS3 hx3 hv3 hb3 hO4 hM4
 go_upto_region 11 with fail
 clear hne
 go_wp2_with fail
 go_loopw [13, 14] (fun mv iv wr => ∃ (i b n : Nat) (s : Dsk) (ms : List (List UInt8)) (A6 : Option Addr) (m6 c6 : Nat) (rs : List RcV), i ≤ 6 ∧ mv = .slice A6 m6 c6 ∧ iv = .int .i64 (i : Int) ∧ MdS w1 wr S d L x v b n i s ms A6 m6 c6 rs ∧ recs rs = manyF st nb (40 * i)) (fun _ iv _ => 6 - (intOf iv).toNat)
 case atStart => exact ⟨0, b, 1, s2, ms2, none, 0, 0, [], by omega, rfl, rfl, H4.out, rfl⟩
 case round =>
  obtain ⟨i, b, n, s, ms, A6, m6, c6, rs, hi6, rfl, rfl, hI, hrs⟩ := hrel
  by_cases hl6 : i < 6
  case neg =>
   obtain rfl : i = 6 := by omega
   have hl6d : decide (((6 : Nat) : Int) < 6) = false := decide_eq_false (by omega)
   have hl6i : ¬ ((6 : Nat) : Int) < 6 := by omega
   have HI := Lib.hid hI
   clear hI hrs hi6
   have hop := fun W (ho : Old wr W) => stopen_any (w := W) ⟨(HI.out.below ho).st.mnt.D, HI.out.st.mnt.G, HI.out.st.mnt.sn, HI.out.st.mnt.de, HI.out.st.mnt.fu⟩ (by have := HI.out.nk; omega) HN.out.2.1 (by have := HN.out.2.2.1; omega) HI.out.st.vol HI.out.st.fine HI.out.st.map.rise HI.out.st.room (by have h1 := num_load (recs rs); have h2 := HI.out.st.room; have h3 := HN.out.2.2.1; omega) (HI.out.K.below ho)
   have hop1 := hop wr (Old.refl _)
   clear hop
   go_wp2_with fail
   refine hop1.mono ?_
   rintro e w16 ⟨x16, v16, b16, rfl, hS16, _, _, _, hO16⟩
   have hI16 := HI.out.below hO16
   have his := is_same hI16.st (by have := HN.out.2.2.1; omega) hI16.M
   have H16 := Lib.hid (And.intro hI16 hS16)
   clear hop1 hI16 hS16 hO16
   go_wp2_with fail
   refine his.mono ?_
   rintro e w17 ⟨rfl, hO17⟩
   have his2 := is_same (H16.out.2.below hO17) (by have := HN.out.2.2.1; omega) (H16.out.1.M.below hO17)
   have H17 := Lib.hid (Old.trans H16.out.1.old hO17)
   clear his hO17
   go_wp2_with fail
   refine his2.mono ?_
   rintro e w18 ⟨rfl, hO18⟩
   have H18 := Lib.hid (Old.trans H17.out hO18)
   clear his2 hO18
   go_wp2_with fail
   go_ret
   exact ⟨rfl, Old.trans H1.out H18.out⟩
  case pos =>
   have hl6i : (i : Int) < 6 := by omega
   have hl6d : decide ((i : Int) < 6) = true := decide_eq_true hl6i
   have HI := Lib.hid (And.intro hI (And.intro hrs hl6))
   obtain ⟨a, ha⟩ : ∃ a, 40 * i = a := ⟨_, rfl⟩
   have f1 : (40 : Int) * (i : Int) = (a : Int) := by omega
   have f1w : IntKind.i64.wrap (a : Int) = (a : Int) := IntWalk.i64_in _ (by omega)
   obtain ⟨ip, hip⟩ : ∃ ip, i + 1 = ip := ⟨_, rfl⟩
   have fi : (i : Int) + 1 = (ip : Int) := by omega
   have fiw : IntKind.i64.wrap (ip : Int) = (ip : Int) := IntWalk.i64_in _ (by omega)
   have HA := Lib.hid (And.intro ha hip)
   clear hI hrs hi6 ha hip hl6
   obtain ⟨wo, hwo⟩ : ∃ wo, wo = wr := ⟨_, rfl⟩
   subst hwo
   go_wp2_with fail
   go_loopw [15, 16, 17] (fun lv xv kv wl => ∃ (j : Nat) (A1 : Option Addr) (n1 c1 : Nat) (ps : List PC) (Ax : Option Addr) (nx cx : Nat) (rx : List RcV), j ≤ 40 ∧ lv = .slice A1 n1 c1 ∧ xv = .slice Ax nx cx ∧ kv = .int .i64 (j : Int) ∧ MnI wo wl st nb i j (recs rs) A1 n1 c1 ps Ax nx cx rx) (fun _ _ kv _ => 40 - (intOf kv).toNat)
   case atStart => exact ⟨0, none, 0, 0, [], A6, m6, c6, rs, by omega, rfl, rfl, rfl, ⟨⟨OwnE.nil _ _, fun p hp => (by cases hp)⟩, HI.out.1.M, HI.out.2.1, HI.out.2.1, rfl, rfl, fun q hq => (by cases hq), Old.refl _⟩⟩
   case round =>
    obtain ⟨j, A1, n1, c1, ps, Ax, nx, cx, rx, hj, rfl, rfl, rfl, hJ⟩ := hrel
    by_cases hl40 : j < 40
    case neg =>
     obtain rfl : j = 40 := by omega
     have hl40d : decide (((40 : Nat) : Int) < 40) = false := decide_eq_false (by omega)
     have hl40i : ¬ ((40 : Nat) : Int) < 40 := by omega
     have HJ := Lib.hid hJ
     clear hJ hj
     have hOJ := HJ.out.old
     have hnp : n1 = ps.length := HJ.out.own.1.len
     obtain ⟨cv, hcv⟩ : ∃ cv, comV (recs rs) ps T = cv := ⟨_, rfl⟩
     have hcm := stcommit_all (HI.out.1.st.below hOJ) A1 n1 c1 ps HJ.out.own.at_ (by have := HJ.out.num; omega) (HI.out.1.K.below hOJ) (by have h1 := HI.out.1.nk; have h2 := HI.out.2.2; omega) HI.out.1.F (by have h2 := HI.out.2.2; omega) HN.out.2.1 (by have := HN.out.2.2.1; omega) HJ.out.len
     unfold ComAll at hcm
     rw [HN.out.1, hcv] at hcm
     obtain ⟨ld, hld⟩ : ∃ ld, sload (recs rx) = ld := ⟨_, rfl⟩
     have hsx : schgs (recs rs) ps = recs rx := by rw [HJ.out.chg, HJ.out.isx]
     have hldb : ld ≤ 240 * 48 := by
      rw [← hld, HJ.out.isx, many_load]
      exact Nat.mul_le_mul (by have := HI.out.2.2; omega) (by have := HN.out.2.2.2.1; omega)
     have hcd : cv = if T < ld then 49 else 0 := by
      rw [← hcv]
      unfold comV
      rw [HJ.out.ok, if_pos rfl, hsx, hld]
     have HL := Lib.hid (And.intro hld (And.intro hsx hldb))
     clear hcv hOJ hnp hld hsx hldb
     go_wp2_with fail
     by_cases hbig : T < ld
     case pos =>
      rw [if_pos hbig] at hcd
      subst hcd
      have hbd : decide ((ld : Int) > (T : Int)) = true := decide_eq_true (by omega)
      have q49 : ((49 : Int) != 49) = false := by decide
      have hbn : decide (T < ld) = true := decide_eq_true hbig
      have HB := Lib.hid hbig
      refine hcm.mono ?_
      rintro e w7 ⟨n', s', ms', b', rfl, hS7, hn7, hF7, hK7, hT7⟩
      rw [if_neg (by decide)] at hS7
      have hD7 := (HI.out.1.below HJ.out.old).done (HI.out.1.M.below HJ.out.old) hS7 hn7 hF7 hK7 hT7
      have hll := lload_any Ax nx cx 0 rx w7 (HJ.out.mod.turn hT7 (HI.out.1.below HJ.out.old).types) (by have h1 := HL.out.1; have h2 := HL.out.2.2; omega)
      rw [HL.out.1] at hll
      have H7 := Lib.hid hD7
      clear hcm hS7 hn7 hF7 hK7 hT7 hD7
      go_wp2_with fail
      refine hll.mono ?_
      rintro e w8 ⟨rfl, hO8⟩
      have HI := Lib.hid (H7.out.below hO8)
      clear hll hO8
      have hop := fun W (ho : Old w8 W) => stopen_any (w := W) ⟨(HI.out.below ho).st.mnt.D, HI.out.st.mnt.G, HI.out.st.mnt.sn, HI.out.st.mnt.de, HI.out.st.mnt.fu⟩ (by have := HI.out.nk; omega) HN.out.2.1 (by have := HN.out.2.2.1; omega) HI.out.st.vol HI.out.st.fine HI.out.st.map.rise HI.out.st.room (by have h1 := num_load (recs rs); have h2 := HI.out.st.room; have h3 := HN.out.2.2.1; omega) (HI.out.K.below ho)
      have hop1 := hop w8 (Old.refl _)
      clear hop
      go_wp2_with fail
      refine hop1.mono ?_
      rintro e w16 ⟨x16, v16, b16, rfl, hS16, _, _, _, hO16⟩
      have hI16 := HI.out.below hO16
      have his := is_same hI16.st (by have := HN.out.2.2.1; omega) hI16.M
      have H16 := Lib.hid (And.intro hI16 hS16)
      clear hop1 hI16 hS16 hO16
      go_wp2_with fail
      refine his.mono ?_
      rintro e w17 ⟨rfl, hO17⟩
      have his2 := is_same (H16.out.2.below hO17) (by have := HN.out.2.2.1; omega) (H16.out.1.M.below hO17)
      have H17 := Lib.hid (Old.trans H16.out.1.old hO17)
      clear his hO17
      go_wp2_with fail
      refine his2.mono ?_
      rintro e w18 ⟨rfl, hO18⟩
      have H18 := Lib.hid (Old.trans H17.out hO18)
      clear his2 hO18
      go_wp2_with fail
      go_ret
      exact ⟨rfl, Old.trans H1.out H18.out⟩
     case neg =>
      rw [if_neg hbig] at hcd
      subst hcd
      have hbd : decide ((ld : Int) > (T : Int)) = false := decide_eq_false (by omega)
      have hbn : decide (T < ld) = false := decide_eq_false hbig
      refine hcm.mono ?_
      rintro e w7 ⟨n', s', ms', b', rfl, hS7, hn7, hF7, hK7, hT7⟩
      rw [if_pos rfl, HL.out.2.1] at hS7
      have hD7 := (HI.out.1.below HJ.out.old).done HJ.out.mod hS7 hn7 hF7 hK7 hT7
      have hll := lload_any Ax nx cx 0 rx w7 hD7.M (by have h1 := HL.out.1; have h2 := HL.out.2.2; omega)
      rw [HL.out.1] at hll
      have H7 := Lib.hid hD7
      clear hcm hS7 hn7 hF7 hK7 hT7 hD7
      go_wp2_with fail
      refine hll.mono ?_
      rintro e w8 ⟨rfl, hO8⟩
      have H8 := Lib.hid (H7.out.below hO8)
      clear hll hO8
      go_wp2_with fail
      go_roundw
      have h8 := H8.out
      rw [HA.out.2] at h8
      case measure => have h1 := HA.out.2; have h2 := HI.out.2.2; simp [intOf]; omega
      exact ⟨ip, b', n', s', ms', Ax, nx, cx, rx, by have h1 := HA.out.2; have h2 := HI.out.2.2; omega, rfl, rfl, h8, by rw [HJ.out.isx]; congr 1; have h1 := HA.out.2; omega⟩
    case pos =>
     have hl40i : (j : Int) < 40 := by omega
     have hl40d : decide ((j : Int) < 40) = true := decide_eq_true hl40i
     obtain ⟨t, ht⟩ : ∃ t, a + j = t := ⟨_, rfl⟩
     have htb : t < 240 := by have h1 := HA.out.1; have h2 := HI.out.2.2; omega
     obtain ⟨u, hu⟩ : ∃ u, st * t = u := ⟨_, rfl⟩
     have hub : u ≤ 50 * 240 := by rw [← hu]; exact Nat.mul_le_mul HN.out.2.2.2.2.2 (by omega)
     obtain ⟨id, hid⟩ : ∃ id, 1 + u = id := ⟨_, rfl⟩
     obtain ⟨jp, hjp⟩ : ∃ jp, j + 1 = jp := ⟨_, rfl⟩
     have g1 : (a : Int) + (j : Int) = (t : Int) := by omega
     have g1w : IntKind.i64.wrap (t : Int) = (t : Int) := IntWalk.i64_in _ (by omega)
     have g2 : (st : Int) * (t : Int) = (u : Int) := by rw [← hu]; exact (Int.natCast_mul st t).symm
     have g2w : IntKind.i64.wrap (u : Int) = (u : Int) := IntWalk.i64_in _ (by omega)
     have g3 : (1 : Int) + (u : Int) = (id : Int) := by omega
     have g3w : IntKind.i64.wrap (id : Int) = (id : Int) := IntWalk.i64_in _ (by omega)
     have g4 : (j : Int) + 1 = (jp : Int) := by omega
     have g4w : IntKind.i64.wrap (jp : Int) = (jp : Int) := IntWalk.i64_in _ (by omega)
     have hmk := Tryz.prog_make nb (by have := HN.out.2.2.2.1; omega) wr
     have hcs := chs_zs wr (id : Int) nb (wfI_in (by omega) (by omega)) (by have := HN.out.2.2.2.1; omega)
     have HJ := Lib.hid (And.intro hJ (And.intro hcs.rd (And.intro (show 40 * i + j = t by have := HA.out.1; omega) (And.intro hu (And.intro hid (And.intro hjp (And.intro hl40 (show id ≤ 12001 by omega))))))))
     clear hJ hj hcs ht htb hu hub hid hjp hl40
     go_upto_region 21 with (at_builtin; go_must (refine wp_appE Tryz.eC (.tmp 75) (.tmp 80) wo.heap.size (.slice A1 n1 c1) ps (HJ.out.1.own.1.below (((Old.refl wr).alloc _).alloc _)) (by have := HJ.out.1.old.size; simp; omega) (some ⟨wr.heap.size + 1, 0, none⟩) 1 1 [⟨(id : Int), false, some ⟨wr.heap.size, 0, none⟩, nb, nb, zs nb⟩] HJ.out.2.1 (fun h => by cases h) (by have h1 := HJ.out.1.num; have h2 := HJ.out.2.2.2.2.2.2.1; simp; omega) rfl rfl rfl rfl ?_); intro A9 n9 c9 w9 hG; have H9 := Lib.hid hG; clear hG)
     clear hmk
     have hwf : wfI (id : Int) := wfI_in (by omega) (by have := HJ.out.2.2.2.2.2.2.2; omega)
     have hP9 := (HJ.out.1.own.below ((Old.refl wr).alloc (.cells (madeCells #[.int .u8 0] nb) 5))).snoc (p := ⟨(id : Int), false, some ⟨wr.heap.size, 0, none⟩, nb, nb, zs nb⟩) ((Own.made wr nb (by have := HN.out.2.2.2.1; unfold maxLen; omega)).mono (Nat.zero_le _)) hwf ((Old.refl _).alloc _) H9.out
     have hT9 := (((Turn.refl (Value.slice A1 n1 c1).ownBlock.toList wr).alloc _).alloc _).grown H9.out.grown (fun k hk => .inl (by rw [Option.mem_toList]; exact hk))
     have hR9 : RcAt w9 0 (.slice Ax nx cx) rx := HJ.out.1.mod.turn hT9 (fun g hg => by
      rw [Option.mem_toList] at hg
      obtain ⟨cs', hbk⟩ := HJ.out.1.own.1.blk hg
      exact .inr ⟨_, _, hbk, by decide, by decide⟩)
     have hW9 : Old wo w9 := Below.trans (Old.alloc (Old.alloc HJ.out.1.old _) _) H9.out.below
     have hnx := hR9.1.rd.1
     have hcx := hR9.1.max.2.1
     have hnxb : nx ≤ 240 := by
      have h1 := congrArg List.length HJ.out.1.isx
      rw [recs_len] at h1
      unfold manyF at h1
      rw [List.length_map, List.length_range] at h1
      have h2 := HJ.out.2.2.1
      have h3 := HI.out.2.2
      have h4 := HJ.out.2.2.2.2.2.2.1
      omega
     have HR := Lib.hid (And.intro hP9 (And.intro hR9 (And.intro hW9 (And.intro hnx (And.intro hcx hnxb)))))
     clear hP9 hT9 hR9 hW9 hnx hcx hnxb H9
     refine region_old (by kernel_rfl) (fun wd hHeld hSz => ?_)
     have HSz := Lib.hid hSz
     clear hSz
     refine tkS 0 hHeld ?_
     refine tkS 1 hHeld ?_
     refine tkS 2 hHeld ?_
     refine tkS 3 hHeld ?_
     refine tkS 4 hHeld ?_
     refine tkS 5 hHeld ?_ (hy := by intro wq hSw; have hRun := slice3R Ax nx cx HR.out.2.2.2.2.1 wq; clear hSw; go_simp; try with_reducible rfl)
     refine tkS 6 hHeld ?_
     refine tkS 7 hHeld ?_
     have hmk2 := Tryz.prog_make nb (by have := HN.out.2.2.2.1; omega) wd
     refine rdL 8 (fun K hK => ?_)
     go_simp
     refine hK.out _ _ (hHeld.alloc _) (fun hHeld => ?_)
     clear hK K
     try simp only [Act.put, sA, sB, sC]
     refine tkS 9 hHeld ?_
     refine rdL 10 (fun K hK => ?_)
     go_simp
     refine hK.out _ _ (hHeld.alloc _) (fun hHeld => ?_)
     clear hK K
     try simp only [Act.put, sA, sB, sC]
     have hrd2 : RdC Tryz.eRc ((wd.alloc (.cells (madeCells #[.int .u8 0] nb) 5)).alloc (.cells #[.int .i64 (id : Int), .slice (some ⟨wd.heap.size, 0, none⟩) nb nb] 53)) (some ⟨wd.heap.size + 1, 0, none⟩) 1 [⟨(id : Int), some ⟨wd.heap.size, 0, none⟩, nb, nb, zs nb⟩] := by
      have h := Blk.rdC Tryz.eRc (x := ⟨(id : Int), some ⟨wd.heap.size, 0, none⟩, nb, nb, zs nb⟩) (Blk.new (wd.alloc (.cells (madeCells #[.int .u8 0] nb) 5)) 53 #[.int .i64 (id : Int), .slice (some ⟨wd.heap.size, 0, none⟩) nb nb]) rfl
      rwa [show (wd.alloc (.cells (madeCells #[.int .u8 0] nb) 5)).heap.size = wd.heap.size + 1 by simp] at h
     have hR2 := HR.out.2.1.below hHeld
     have hHl := Lib.hid hHeld
     refine rdL 11 (fun K hK => ?_)
     refine step_app_grownE Tryz.eRc (.tmp 87) (.tmp 92) Ax nx nx rx hR2.1.rd (some ⟨wd.heap.size + 1, 0, none⟩) 1 1 _ hrd2 (by omega) (by have h1 := HR.out.2.2.2.1; have h2 := HR.out.2.2.2.2.2; simp; omega) rfl rfl rfl rfl (fun C w10 hO10 hB10 => ?_)
     have hO10b : OwnE Tryz.eRc w10 0 (.slice (some ⟨wd.heap.size + 1 + 1, 0, none⟩) (nx + 1) C) (rx ++ [⟨(id : Int), some ⟨wd.heap.size, 0, none⟩, nb, nb, zs nb⟩]) := by
      have h := hO10.mono (Nat.zero_le _)
      rwa [show ((wd.alloc (.cells (madeCells #[.int .u8 0] nb) 5)).alloc (.cells #[.int .i64 (id : Int), .slice (some ⟨wd.heap.size, 0, none⟩) nb nb] 53)).heap.size = wd.heap.size + 1 + 1 by simp] at h
     have H10 := Lib.hid (And.intro hO10b (Old.trans hHl.out hB10))
     have HB10 := Lib.hid hB10
     refine hK.out _ _ H10.out.2 (fun hHeld => ?_)
     clear hK K hO10 hO10b hB10 hrd2 hR2
     try simp only [Act.put, sA, sB, sC]
     refine tkS 12 hHeld ?_
     refine wpAnyH_done (by kernel_rfl) ?_ _
     refine NoPanic.normal ?_
     try simp only [Exit.then]
     try go_at_K
     go_wp2_with fail
     go_roundw
     case measure => have h1 := HJ.out.2.2.2.2.2.1; have h2 := HJ.out.2.2.2.2.2.2.1; simp [intOf]; omega
     have hjp := HJ.out.2.2.2.2.2.1
     have htt := HJ.out.2.2.1
     have hx2 : recs rx ++ [((id : Int), zs nb)] = manyF st nb (40 * i + jp) := by
      rw [HJ.out.1.isx, htt, show 40 * i + jp = t + 1 by omega, manyF_succ, ← HJ.out.2.2.2.2.1, ← HJ.out.2.2.2.1]
     have hrow : Own w10 0 (.slice (some ⟨wd.heap.size, 0, none⟩) nb nb) (zs nb) := (((Own.made wd nb (by have := HN.out.2.2.2.1; unfold maxLen; omega)).mono (Nat.zero_le _)).below ((Old.refl _).alloc _)).below HB10.out
     refine ⟨jp, A9, n9, c9, _, _, _, C, rx ++ [⟨(id : Int), some ⟨wd.heap.size, 0, none⟩, nb, nb, zs nb⟩], by have := HJ.out.2.2.2.2.2.2.1; omega, rfl, rfl, rfl, HR.out.1.below H10.out.2, ⟨H10.out.1, fun p hp => ?_⟩, ?_, ?_, ?_, ?_, fun q hq => ?_, Old.trans HR.out.2.2.1 H10.out.2⟩
     ·rcases List.mem_append.1 hp with h | h
      ·exact (HR.out.2.1.2 p h).below H10.out.2
      ·rw [List.mem_singleton] at h
       subst h
       exact hrow
     ·rw [recs_snoc]; exact hx2
     ·rw [schgs_snoc, HJ.out.1.chg, htt, show 40 * i + jp = t + 1 by omega, ← many_put st nb t HN.out.2.2.2.2.1, ← HJ.out.2.2.2.2.1, ← HJ.out.2.2.2.1]
     ·rw [List.length_append, HJ.out.1.num]; exact hjp
     ·rw [List.all_append, HJ.out.1.ok]
      have h1 := HJ.out.2.2.2.2.1
      have h2 := HJ.out.2.2.2.2.2.2.2
      have h3 := HN.out.2.2.2.1
      simp [okC, zs_len]
      omega
     ·rcases List.mem_append.1 hq with h | h
      ·exact HJ.out.1.len q h
      ·rw [List.mem_singleton] at h
       subst h
       have h3 := HN.out.2.2.2.1
       simp [zs_len]
       omega
end Go.Proofs.YtgjnmpjimhbfgaaGreatDoor
