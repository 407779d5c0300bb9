/-
  The reference's Reply.
-/
import Derived.Test.YtmanpfenmamflaaRpcR4
import Derived.Test.YtmanpfenmamflaaRpcR5
import Derived.Test.YtmanpfenmamflaaRpc6
namespace Go.Proofs.Ytmanpfenmamflaa
open Go.RowKit

theorem replyO_no {c : PRep} (h : [c.rv, c.a, c.b].all inHalf = false ∨ (65536 : Int) < c.data.length ∨ (1024 : Int) < c.list.length ∨ c.list.all inHalf = false ∨ pattrs c.attrs = none) : frameO (replyO c) = none := by
  have : replyO c = none := by
    unfold replyO
    rcases h with h | h | h | h | h
    · rw [p4s_out _ h]; rfl
    · rw [pbytes_no h, ocat_none2]; rfl
    · unfold pints
      rw [show pnum c.list.length 2 1024 = none from if_pos (.inr h), ocat_none, ocat_none2]; rfl
    · unfold pints
      rw [p4s_out _ h, ocat_none2, ocat_none2]; rfl
    · rw [h, ocat_none2]
  rw [this]; rfl
set_option maxRecDepth 100000 in
set_option maxHeartbeats 4000000 in
theorem rreply_any (c : PRep) (d e t : Sl) (w : World) (h : RepIs w w.heap.size c d e t) :
    Calls Try.prog 19 #[repV c d e t] w (FrRes w (frameO (replyO c))) := by
  unfold repV
  obtain ⟨X, hX⟩ : ∃ X, X = w.heap.size := ⟨_, rfl⟩
  obtain ⟨wA, hwA⟩ : ∃ wA, w.alloc (.cells (repC c d e t) 48) = wA := ⟨_, rfl⟩
  have hC : Blk wA X 48 (repC c d e t) := by rw [← hwA, hX]; exact Blk.new _ _ _
  have hbA : Below X w wA := by rw [← hwA, hX]; exact (Below.refl _ _).alloc (Nat.le_refl _) _
  have hsA : wA.heap.size = X + 1 := by rw [← hwA, hX]; simp
  have hI : RepIs wA (X + 1) c d e t := ((hX ▸ h).old hbA).mono (by omega)
  have ld := h.hd.len
  have le := h.he.1
  have hx1 := h.he.2.1
  have hx2 := h.he.2.2.1
  have m63 : (d.m : Int) ≤ 9223372036854775807 := by
    rcases h.hd with ⟨hr, _⟩ | hr
    · have := hr.2.1; have := hr.2.2.1; unfold maxLen at this; omega
    · omega
  have m63e : (e.m : Int) ≤ 9223372036854775807 := by unfold maxLen at hx2; omega
  obtain ⟨wB, hwB⟩ : ∃ wB, wA.alloc (.cells #[.int .i64 c.rv, .int .i64 c.a, .int .i64 c.b] 3) = wB := ⟨_, rfl⟩
  have hQ : Blk wB (X + 1) 3 #[.int .i64 c.rv, .int .i64 c.a, .int .i64 c.b] := by rw [← hwB, ← hsA]; exact Blk.new _ _ _
  have hbB : Below (X + 1) wA wB := by rw [← hwB, ← hsA]; exact (Below.refl _ _).alloc (Nat.le_refl _) _
  have hsB : wB.heap.size = X + 2 := by rw [← hwB]; simp [hsA]
  have hIn : IntsAt wB wB.heap.size ⟨some ⟨X + 1, 0, none⟩, 3, 3⟩ [c.rv, c.a, c.b] := by
    refine ⟨rfl, Nat.le_refl _, (show 3 ≤ maxLen by decide), .inr ⟨X + 1, 0, rfl, hQ.lt, hQ.lt, fun j x hj => ?_⟩⟩
    rw [hQ.cell, Nat.zero_add, show (#[Value.int .i64 c.rv, .int .i64 c.a, .int .i64 c.b] : Array Value) = ([c.rv, c.a, c.b].map (Value.int .i64)).toArray from rfl, List.getElem?_toArray, List.getElem?_map, hj]; rfl
  have hwb : Below X w wB := hbA.trans (hbB.mono (by omega))
  have hCB : Blk wB X 48 (repC c d e t) := hC.keep (hbB.block X (by omega))
  have hIB : RepIs wB wB.heap.size c d e t := (hI.old hbB).mono (by omega)
  have q0 := hC.cell 0
  have q1 := hC.cell 1
  have q2 := hC.cell 2
  have r3 := hCB.cell 3
  have r4 := hCB.cell 4
  have r5 := hCB.cell 5
  simp only [repC, List.getElem?_toArray, List.getElem?_cons_succ, List.getElem?_cons_zero] at q0 q1 q2 r3 r4 r5
  have HA := Lib.hid (And.intro hX (And.intro hsA (And.intro ld.symm le)))
  have HB := Lib.hid (And.intro hwb (And.intro hsB (And.intro hIn (And.intro hCB hIB))))
  unfold repC at hwA
  have hXw : w.heap.size = X := hX.symm
  clear hX hbA hI ld le hx1 hx2 h hQ hbB hIn hwb hCB hIB hC
  obtain ⟨R, hR⟩ : ∃ R, frameO (replyO c) = R := ⟨_, rfl⟩
  rw [hR]
  by_cases b1 : [c.rv, c.a, c.b].all inHalf = false
  · rw [replyO_no (.inl b1)] at hR
    subst hR
    go_enter Try.func19, Try.ntmps19
    go_wp2_with fail
    refine (fits_any ⟨some ⟨X + 1, 0, none⟩, 3, 3⟩ [c.rv, c.a, c.b] wB HB.out.2.2.1).mono ?_
    rintro e0 w0 ⟨rfl, rfl⟩
    rw [b1]
    go_wp2_with fail
    go_ret2
    exact ⟨by rw [← HA.out.1]; exact HB.out.1, .inl ⟨rfl, rfl⟩⟩
  have b1 : [c.rv, c.a, c.b].all inHalf = true := by simpa using b1
  by_cases b2 : (65536 : Int) < d.m
  · have d2 : decide ((65536 : Int) < d.m) = true := decide_eq_true b2
    rw [replyO_no (.inr (.inl (by rw [HA.out.2.2.1]; exact b2)))] at hR
    subst hR
    go_enter Try.func19, Try.ntmps19
    go_wp2_with fail
    refine (fits_any ⟨some ⟨X + 1, 0, none⟩, 3, 3⟩ [c.rv, c.a, c.b] wB HB.out.2.2.1).mono ?_
    rintro e0 w0 ⟨rfl, rfl⟩
    rw [b1]
    go_wp2_with fail
    go_ret2
    exact ⟨by rw [← HA.out.1]; exact HB.out.1, .inl ⟨rfl, rfl⟩⟩
  have d2 : decide ((65536 : Int) < d.m) = false := decide_eq_false b2
  by_cases b3 : (1024 : Int) < e.m
  · have d3 : decide ((1024 : Int) < e.m) = true := decide_eq_true b3
    rw [replyO_no (.inr (.inr (.inl (by rw [HA.out.2.2.2]; exact b3))))] at hR
    subst hR
    go_enter Try.func19, Try.ntmps19
    go_wp2_with fail
    refine (fits_any ⟨some ⟨X + 1, 0, none⟩, 3, 3⟩ [c.rv, c.a, c.b] wB HB.out.2.2.1).mono ?_
    rintro e0 w0 ⟨rfl, rfl⟩
    rw [b1]
    go_wp2_with fail
    go_ret2
    exact ⟨by rw [← HA.out.1]; exact HB.out.1, .inl ⟨rfl, rfl⟩⟩
  have d3 : decide ((1024 : Int) < e.m) = false := decide_eq_false b3
  by_cases b4 : c.list.all inHalf = false
  · rw [replyO_no (.inr (.inr (.inr (.inl b4))))] at hR
    subst hR
    go_enter Try.func19, Try.ntmps19
    go_wp2_with fail
    refine (fits_any ⟨some ⟨X + 1, 0, none⟩, 3, 3⟩ [c.rv, c.a, c.b] wB HB.out.2.2.1).mono ?_
    rintro e0 w0 ⟨rfl, rfl⟩
    rw [b1]
    go_wp2_with fail
    refine (fits_any e c.list wB HB.out.2.2.2.2.he).mono ?_
    rintro e0 w0 ⟨rfl, rfl⟩
    rw [b4]
    go_wp2_with fail
    go_ret2
    exact ⟨by rw [← HA.out.1]; exact HB.out.1, .inl ⟨rfl, rfl⟩⟩
  have b4 : c.list.all inHalf = true := by simpa using b4
  have HRR := Lib.hid hR
  clear hR
  go_enter Try.func19, Try.ntmps19
  go_wp2_with fail
  refine (fits_any ⟨some ⟨X + 1, 0, none⟩, 3, 3⟩ [c.rv, c.a, c.b] wB HB.out.2.2.1).mono ?_
  rintro e0 w0 ⟨rfl, rfl⟩
  rw [b1]
  go_wp2_with fail
  refine (fits_any e c.list wB HB.out.2.2.2.2.he).mono ?_
  rintro e0 w0 ⟨rfl, rfl⟩
  rw [b4]
  go_wp2_with fail
  refine (rattrs25_any t.A t.m t.c c.attrs wB HB.out.2.2.2.2.ht HB.out.2.2.2.2.tm).mono ?_
  rintro e1 w1 ⟨hb1, hres1⟩
  have hw1 : Below X w w1 := HB.out.1.trans (hb1.mono (by have := HB.out.2.1; omega))
  have hC1 : Blk w1 X 48 (repC c d e t) := HB.out.2.2.2.1.below hb1
  have hs1 : X + 2 ≤ w1.heap.size := by have := hb1.size; have := HB.out.2.1; omega
  have hI1 : RepIs w1 w1.heap.size c d e t := (HB.out.2.2.2.2.old hb1).mono hb1.size
  have Hb := Lib.hid (And.intro b1 b4)
  clear b1 b4 q0 q1 q2 r3 r4 r5 hwA hwB hXw
  rcases hres1 with ⟨hn1, rfl⟩ | ⟨x1, hx1, A1, n1, c1, rfl, hO1⟩
  · have hRn : R = none := by rw [← HRR.out]; exact replyO_no (.inr (.inr (.inr (.inr hn1))))
    subst hRn
    have H1 := Lib.hid hw1
    clear hn1 hw1 hC1 hs1 hI1 hb1
    go_wp2_with fail
    go_ret2
    exact ⟨by rw [← HA.out.1]; exact H1.out, .inl ⟨rfl, rfl⟩⟩
  have q0 := hC1.cell 0
  have q1 := hC1.cell 1
  have q2 := hC1.cell 2
  have q3 := hC1.cell 3
  simp only [repC, List.getElem?_toArray, List.getElem?_cons_succ, List.getElem?_cons_zero] at q0 q1 q2 q3
  obtain ⟨Z, hZ⟩ : ∃ Z, w1.heap.size = Z := ⟨_, rfl⟩
  have H1 := Lib.hid (And.intro hw1 (And.intro hC1 (And.intro hs1 (And.intro hI1 (And.intro hx1 (And.intro hO1 hZ))))))
  clear hw1 hC1 hs1 hI1 hx1 hO1 hb1 hZ
  go_wp2_with fail
  clear q0 q1 q2 q3
  obtain ⟨wC, hwC⟩ : ∃ wC, w1.alloc (.cells #[.int .i64 c.rv, .int .i64 c.a, .int .i64 c.b, .int .i64 (d.m : Int)] 3) = wC := ⟨_, rfl⟩
  have hQC : Blk wC Z 3 #[.int .i64 c.rv, .int .i64 c.a, .int .i64 c.b, .int .i64 (d.m : Int)] := by rw [← hwC, ← H1.out.2.2.2.2.2.2]; exact Blk.new _ _ _
  have hbC : Below Z w1 wC := by rw [← hwC, ← H1.out.2.2.2.2.2.2]; exact (Below.refl _ _).alloc (Nat.le_refl _) _
  have hsC : wC.heap.size = Z + 1 := by rw [← hwC, ← H1.out.2.2.2.2.2.2]; simp
  have hZe := H1.out.2.2.2.2.2.2
  have hXZ : X + 2 ≤ Z := by have := H1.out.2.2.1; omega
  rw [hwC]
  try rw [hZe]
  have HC := Lib.hid (And.intro hQC (And.intro hbC (And.intro hsC hXZ)))
  clear hwC hQC hbC hsC hZe hXZ
  go_loopw [6, 8] (fun v kk wr => ∃ k : Nat, k ≤ 4 ∧ kk = .int .i64 (k : Int) ∧ ∃ Ab nb cb bs, v = .slice Ab nb cb ∧ Own wr (Z + 1) (.slice Ab nb cb) bs ∧ some bs = pcat (([c.rv, c.a, c.b, (d.m : Int)].take k).map p4) ∧ Below (Z + 1) wC wr ∧ bs.length ≤ k * 4) (fun _ kk _ => 4 - (intOf kk).toNat)
  case atStart => exact ⟨0, by omega, rfl, none, 0, 0, [], rfl, Own.nil _ _, rfl, Below.refl _ _, Nat.zero_le _⟩
  case round =>
    obtain ⟨k, hk, rfl, Ab, nb, cb, bs, rfl, hO, hbs, hB, hlen⟩ := hrel
    by_cases hlt : k < 4
    · have hlti : (k : Int) < 4 := by omega
      have hltd : decide ((k : Int) < 4) = true := decide_eq_true hlti
      have hk0 : ¬ ((k : Int) < 0) := by omega
      obtain ⟨x, hx⟩ : ∃ x, [c.rv, c.a, c.b, (d.m : Int)][k]? = some x := ⟨_, List.getElem?_eq_getElem (by simpa using hlt)⟩
      have hxin : inHalf x = true := by
        have hall : [c.rv, c.a, c.b, (d.m : Int)].all inHalf = true := by
          have h1 := Hb.out.1
          simp only [List.all_cons, List.all_nil, Bool.and_true] at h1 ⊢
          have h2 : inHalf (d.m : Int) = true := decide_eq_true ⟨by omega, by omega⟩
          rw [h2, Bool.and_true]; exact h1
        exact List.all_eq_true.1 hall x (List.mem_of_getElem? hx)
      have hQ : Blk wr Z 3 #[.int .i64 c.rv, .int .i64 c.a, .int .i64 c.b, .int .i64 (d.m : Int)] := HC.out.1.keep (hB.block Z (by have := HC.out.2.2.1; omega))
      have qk : wr.cell? ⟨Z, k, none⟩ = some (.int .i64 x) := by
        rw [hQ.cell k, show (#[.int .i64 c.rv, .int .i64 c.a, .int .i64 c.b, .int .i64 (d.m : Int)] : Array Value) = ([c.rv, c.a, c.b, (d.m : Int)].map (Value.int .i64)).toArray from rfl, List.getElem?_toArray, List.getElem?_map, hx]; rfl
      have hp4 := p4_in hxin
      have hxr := of_decide_eq_true hxin
      obtain ⟨N, hN⟩ := Int.eq_ofNat_of_zero_le hxr.1
      have hN2 : N ≤ 2147483647 := by omega
      rw [hN] at qk
      rw [hN, Int.toNat_natCast] at hp4
      have hsz : Z + 1 ≤ wr.heap.size := by have := hB.size; have := HC.out.2.2.1; omega
      have HR := Lib.hid (And.intro hO (And.intro hbs (And.intro hB (And.intro hsz (And.intro hlen (And.intro hx (And.intro hp4 hN)))))))
      clear hO hbs hB hQ hlen hx hp4 hxin hxr hN hsz
      go_wp2_with fail
      refine (rnum_any N 4 wr (by omega) (.inr (.inr rfl))).mono ?_
      rintro e3 w3 ⟨A3, n3, c3, rfl, hO3, hB3⟩
      have H3 := Lib.hid (And.intro hO3 (And.intro hB3 (HR.out.2.2.1.trans (hB3.mono HR.out.2.2.2.1))))
      clear hO3 hB3
      go_wp2_with (at_builtin; go_must (refine wp_app2 (.tmp 66) (.tmp 67) (Z + 1) (.slice Ab nb cb) bs (HR.out.1.below H3.out.2.1) (by have := H3.out.2.1.size; have := HR.out.2.2.2.1; omega) A3 n3 c3 (num N 4) H3.out.1.rd (by rw [num_len _ _ (by omega)]; have := HR.out.2.2.2.2.1; omega) rfl rfl rfl rfl ?_); intro A4 n4 c4 w4 hi4 hG; have H4 := Lib.hid (And.intro hG (H3.out.2.2.trans hG.below)); clear hG)
      go_roundw
      case measure => simp [intOf]; omega
      refine ⟨k + 1, by omega, by simp, A4, n4, c4, _, rfl, H4.out.1.own, ?_, H4.out.2, ?_⟩
      · rw [pcat_stepI _ _ _ HR.out.2.2.2.2.2.1, ← HR.out.2.1, HR.out.2.2.2.2.2.2.2, HR.out.2.2.2.2.2.2.1, ocat_some]
      · rw [List.length_append, num_len _ _ (by omega)]; have := HR.out.2.2.2.2.1; omega
    · obtain rfl : k = 4 := by omega
      have hlti : ¬ ((4 : Nat) : Int) < 4 := by omega
      have hsz : Z + 1 ≤ wr.heap.size := by have := hB.size; have := HC.out.2.2.1; omega
      have hd4 : p4 (d.m : Int) = pnum (c.data.length : Int) 4 65536 := by
        rw [p4_in (decide_eq_true ⟨by omega, by omega⟩), HA.out.2.2.1, pnum_ok (by omega)]
      have hbs1 : some (bs ++ c.data) = ocat (pcat ([c.rv, c.a, c.b].map p4)) (pbytes c.data 4 65536) := by
        have e1 : pcat (([c.rv, c.a, c.b, (d.m : Int)].take 4).map p4) = ocat (pcat ([c.rv, c.a, c.b].map p4)) (p4 (d.m : Int)) := by
          show pcat (([c.rv, c.a, c.b] ++ [(d.m : Int)]).map p4) = _
          rw [List.map_append, pcat_append]
          simp only [List.map_cons, List.map_nil, pcat, ocat_nil]
        unfold pbytes
        rw [← ocat_assoc, ← hd4, ← e1, ← hbs, ocat_some]
      have kC : Blk wr X 48 (repC c d e t) := (H1.out.2.1.below (by rw [H1.out.2.2.2.2.2.2]; exact HC.out.2.1)).keep (hB.block X (by have := HC.out.2.2; omega))
      have k3 := kC.cell 3
      simp only [repC, List.getElem?_toArray, List.getElem?_cons_succ, List.getElem?_cons_zero] at k3
      have hw : Below X w wr := (H1.out.1.trans (HC.out.2.1.mono (by have := HC.out.2.2.2; omega))).trans (hB.mono (by have := HC.out.2.2.2; omega))
      have hIr : RepIs wr (Z + 1) c d e t := ((H1.out.2.2.2.1.old (by rw [H1.out.2.2.2.2.2.2]; exact HC.out.2.1)).mono (by rw [H1.out.2.2.2.2.2.2]; omega)).old hB
      have hx1r : Rd wr A1 n1 c1 x1 := (H1.out.2.2.2.2.2.1.rd.below (by rw [H1.out.2.2.2.2.2.2]; exact HC.out.2.1)).keep hB.size (fun ad had => hB.block _ (by have := H1.out.2.2.2.2.2.1.rd.lt ad had; have := H1.out.2.2.2.2.2.2; omega))
      have HR := Lib.hid (And.intro hO (And.intro hbs1 (And.intro hw (And.intro hsz (And.intro hlen (And.intro kC (And.intro hIr hx1r)))))))
      clear hO hbs hbs1 hw hsz hlen kC hIr hx1r hd4 hB
      have hm63 : (d.m : Int) ≤ 65536 := by omega
      go_wp2_with (at_builtin; go_must (refine wp_app2E (.tmp 69) (.tmp 71) (Z + 1) (.slice Ab nb cb) bs HR.out.1 HR.out.2.2.2.1 d.A d.m d.c c.data HR.out.2.2.2.2.2.2.1.hd.e (by have := HR.out.2.2.2.2.1; have := HA.out.2.2.1; omega) rfl rfl rfl rfl ?_); intro A4 n4 c4 w4 hi4 hG; have H4 := Lib.hid (And.intro hG (And.intro (HR.out.2.2.2.2.2.1.keep (hG.below.block X (by have := HC.out.2.2.2; omega))) (Nat.le_trans HR.out.2.2.2.1 hG.below.size))); clear hG; have k4 := H4.out.2.1.cell 4; simp only [repC, List.getElem?_toArray, List.getElem?_cons_succ, List.getElem?_cons_zero] at k4)
      clear k3 k4
      refine (rnum_any e.m 2 w4 (by omega) (.inr (.inl rfl))).mono ?_
      rintro e5 w5 ⟨A5, n5, c5, rfl, hO5, hB5⟩
      have H5 := Lib.hid (And.intro hO5 hB5)
      clear hO5 hB5
      have hys : some (bs ++ c.data ++ num e.m 2) = ocat (ocat (pcat ([c.rv, c.a, c.b].map p4)) (pbytes c.data 4 65536)) (pnum c.list.length 2 1024) := by rw [← HR.out.2.1, HA.out.2.2.2, pnum_ok (by have := HA.out.2.2.2; omega), Int.toNat_natCast, ocat_some, ← HA.out.2.2.2]
      have hyl : (bs ++ c.data ++ num e.m 2).length ≤ 65600 := by rw [List.length_append, List.length_append, num_len _ _ (by omega)]; have := HR.out.2.2.2.2.1; have := HA.out.2.2.1; omega
      obtain ⟨y, hy⟩ : ∃ y, bs ++ c.data ++ num e.m 2 = y := ⟨_, rfl⟩
      obtain ⟨s1, hs1⟩ : ∃ s1, ocat (ocat (pcat ([c.rv, c.a, c.b].map p4)) (pbytes c.data 4 65536)) (pnum c.list.length 2 1024) = s1 := ⟨_, rfl⟩
      rw [hy] at hys hyl
      rw [hs1] at hys
      have HS := Lib.hid (And.intro hy (And.intro hs1 (And.intro hys hyl)))
      clear hy hs1 hys hyl
      go_wp2_with (at_builtin; go_must (refine wp_app2 (.tmp 77) (.tmp 78) (Z + 1) (.slice A4 n4 c4) _ (H4.out.1.own.below H5.out.2) (Nat.le_trans H4.out.2.2 H5.out.2.size) A5 n5 c5 (num e.m 2) H5.out.1.rd (by rw [List.length_append, num_len _ _ (by omega)]; have := HR.out.2.2.2.2.1; have := HA.out.2.2.1; omega) rfl rfl rfl rfl ?_); intro A6 n6 c6 w6 hi6 hG; rw [HS.out.1] at hG; have hbw : Below (Z + 1) wr w6 := (H4.out.1.below.trans (H5.out.2.mono H4.out.2.2)).trans hG.below; have H6 := Lib.hid (And.intro hG.own (And.intro hbw (Nat.le_trans HR.out.2.2.2.1 hbw.size))); clear hG hbw)
      obtain ⟨wm, hwm⟩ : ∃ wm, wm = wr := ⟨_, rfl⟩
      subst hwm
      go_loopw [6, 10, 11] (fun v _ kk wl => ∃ k : Nat, k ≤ e.m ∧ kk = .int .i64 (k : Int) ∧ ∃ Ab nb cb bs, v = .slice Ab nb cb ∧ Own wl (Z + 1) (.slice Ab nb cb) bs ∧ some bs = ocat s1 (pcat ((c.list.take k).map p4)) ∧ Below (Z + 1) wm wl ∧ bs.length ≤ 65600 + k * 4) (fun _ _ kk _ => e.m - (intOf kk).toNat)
      case atStart => exact ⟨0, by omega, rfl, _, _, _, y, rfl, H6.out.1, by rw [List.take_zero, List.map_nil, pcat, ocat_nil]; exact HS.out.2.2.1, H6.out.2.1, by have := HS.out.2.2.2; omega⟩
      case round =>
        obtain ⟨k, hk, rfl, Ab, nb, cb, bs, rfl, hO, hbs, hB, hlen⟩ := hrel
        have kC : Blk wr X 48 (repC c d e t) := HR.out.2.2.2.2.2.1.keep (hB.block X (by have := HC.out.2.2.2; omega))
        have k4 := kC.cell 4
        simp only [repC, List.getElem?_toArray, List.getElem?_cons_succ, List.getElem?_cons_zero] at k4
        have hsz : Z + 1 ≤ wr.heap.size := by have := hB.size; have := HR.out.2.2.2.1; omega
        by_cases hlt : k < e.m
        · have hlti : (k : Int) < (e.m : Int) := by omega
          have hltd : decide ((k : Int) < (e.m : Int)) = true := decide_eq_true hlti
          have hk0 : ¬ ((k : Int) < 0) := by omega
          obtain ⟨x, hx⟩ : ∃ x, c.list[k]? = some x := ⟨_, List.getElem?_eq_getElem (by have := HA.out.2.2.2; omega)⟩
          have hxin : inHalf x = true := List.all_eq_true.1 Hb.out.2 x (List.mem_of_getElem? hx)
          have hcell : ∃ b off, e.A = some ⟨b, off, none⟩ ∧ wr.cell? ⟨b, off + k, none⟩ = some (.int .i64 x) := by
            rcases (HR.out.2.2.2.2.2.2.1.he.old hB).2.2.2 with h0 | ⟨b, off, hA, hb1, hb2, h4⟩
            · omega
            · exact ⟨b, off, hA, h4 k x hx⟩
          obtain ⟨b, off, hA, ck⟩ := hcell
          rw [hA] at k4
          have hp4 := p4_in hxin
          have hxr := of_decide_eq_true hxin
          obtain ⟨N, hN⟩ := Int.eq_ofNat_of_zero_le hxr.1
          have hN2 : N ≤ 2147483647 := by omega
          rw [hN] at ck
          rw [hN, Int.toNat_natCast] at hp4
          have HQ := Lib.hid (And.intro hO (And.intro hbs (And.intro hB (And.intro hsz (And.intro hlen (And.intro hx (And.intro hp4 hN)))))))
          clear hO hbs hB hlen hx hp4 hxin hxr hN hsz hA kC
          go_wp2_with fail
          refine (rnum_any N 4 wr (by omega) (.inr (.inr rfl))).mono ?_
          rintro e3 w3 ⟨A3, n3, c3, rfl, hO3, hB3⟩
          have H3 := Lib.hid (And.intro hO3 (And.intro hB3 (HQ.out.2.2.1.trans (hB3.mono HQ.out.2.2.2.1))))
          clear hO3 hB3 ck k4
          go_wp2_with (at_builtin; go_must (refine wp_app2 (.tmp 93) (.tmp 94) (Z + 1) (.slice Ab nb cb) bs (HQ.out.1.below H3.out.2.1) (by have := H3.out.2.1.size; have := HQ.out.2.2.2.1; omega) A3 n3 c3 (num N 4) H3.out.1.rd (by rw [num_len _ _ (by omega)]; have := HQ.out.2.2.2.2.1; omega) rfl rfl rfl rfl ?_); intro A7 n7 c7 w7 hi7 hG; have H7 := Lib.hid (And.intro hG (H3.out.2.2.trans hG.below)); clear hG)
          go_roundw
          case measure => simp [intOf]; omega
          refine ⟨k + 1, by omega, by simp, A7, n7, c7, _, rfl, H7.out.1.own, ?_, H7.out.2, ?_⟩
          · rw [pcat_stepI _ _ _ HQ.out.2.2.2.2.2.1, ← ocat_assoc, ← HQ.out.2.1, HQ.out.2.2.2.2.2.2.2, HQ.out.2.2.2.2.2.2.1, ocat_some]
          · rw [List.length_append, num_len _ _ (by omega)]; have := HQ.out.2.2.2.2.1; omega
        · obtain rfl : k = e.m := by omega
          have hlti : ¬ (e.m : Int) < (e.m : Int) := by omega
          have hltd : decide ((e.m : Int) < (e.m : Int)) = false := decide_eq_false hlti
          rw [show c.list.take e.m = c.list from List.take_of_length_le (by have := HA.out.2.2.2; omega)] at hbs
          have hz1 := pattrs_len H1.out.2.2.2.2.1
          have hrx : Rd wr A1 n1 c1 x1 := HR.out.2.2.2.2.2.2.2.keep hB.size (fun ad had => hB.block _ (by have := H1.out.2.2.2.2.2.1.rd.lt ad had; have := H1.out.2.2.2.2.2.2; omega))
          have hwr : Below X w wr := HR.out.2.2.1.trans (hB.mono (by have := HC.out.2.2.2; omega))
          have HQ := Lib.hid (And.intro hO (And.intro hbs (And.intro hwr (And.intro hsz (And.intro hlen (And.intro hrx hz1))))))
          clear hO hbs hwr hB hlen hsz hrx hz1 kC
          go_wp2_with (at_builtin; go_must (refine wp_app2 (.tmp 96) (.tmp 97) (Z + 1) (.slice Ab nb cb) bs HQ.out.1 HQ.out.2.2.2.1 A1 n1 c1 x1 HQ.out.2.2.2.2.2.1 (by have := HQ.out.2.2.2.2.1; have := HQ.out.2.2.2.2.2.2; omega) rfl rfl rfl rfl ?_); intro A7 n7 c7 w7 hi7 hG; have H7 := Lib.hid hG; clear hG)
          have hall : some (bs ++ x1) = replyO c := by
            unfold replyO pints
            rw [← ocat_assoc, HS.out.2.1, ← HQ.out.2.1, H1.out.2.2.2.2.1, ocat_some]
          have hfrm := rframe_any A7 n7 c7 _ w7 H7.out.own.rd (by rw [List.length_append]; have := HQ.out.2.2.2.2.1; have := HQ.out.2.2.2.2.2.2; omega)
          rw [hall, HRR.out] at hfrm
          have hbw : Below X w w7 := HQ.out.2.2.1.trans (H7.out.below.mono (by have := HC.out.2.2.2; omega))
          have hX7 : X ≤ w7.heap.size := by have := H7.out.below.size; have := HQ.out.2.2.2.1; have := HC.out.2.2.2; omega
          have HFm := Lib.hid (And.intro hfrm (And.intro hbw hX7))
          clear hfrm hbw hall hX7 k4
          refine HFm.out.1.mono ?_
          rintro ef wf ⟨hbf, hres⟩
          have HBf := Lib.hid (HFm.out.2.1.trans (hbf.mono HFm.out.2.2))
          clear hbf
          rcases hres with ⟨hn, rfl⟩ | ⟨x, hx, Af, nf, cf, rfl, hOf⟩
          · have HN := Lib.hid hn
            clear hn
            go_wp2_with fail
            go_ret2
            exact ⟨by rw [← HA.out.1]; exact HBf.out, .inl ⟨HN.out, rfl⟩⟩
          · have HN := Lib.hid (And.intro hx hOf)
            clear hx hOf
            go_wp2_with fail
            go_ret2
            exact ⟨by rw [← HA.out.1]; exact HBf.out, .inr ⟨x, HN.out.1, Af, nf, cf, rfl, HN.out.2.mono (by rw [← HA.out.1]; exact HFm.out.2.2)⟩⟩
end Go.Proofs.Ytmanpfenmamflaa
