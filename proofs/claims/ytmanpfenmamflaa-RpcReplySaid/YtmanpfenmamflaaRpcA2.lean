/-
  rpc.ReadReply.
-/
import Derived.Test.YtmanpfenmamflaaRpcA
import Derived.Test.YtmanpfenmamflaaRpcI
import Derived.Test.YtmanpfenmamflaaRpcRr
namespace Go.Proofs.Ytmanpfenmamflaa
open Go.RowKit

theorem OwnI.at_ {W : World} {base : Nat} {s : Sl} {l : List Int} (h : OwnI W base (.slice s.A s.m s.c) l) : IntsAt W W.heap.size s l := by
  have hm := h.len
  have h2k := h
  obtain ⟨h2, h2'⟩ := h
  rcases h2' with ⟨e, h0⟩ | ⟨g, cap, cur, e, hg, hh, hnc, hmx, r⟩
  · injection e with e1 e2 e3
    exact ⟨hm.symm, by rw [e2, e3]; exact Nat.le_refl _, by rw [e3]; exact Nat.zero_le _, .inl e2⟩
  · injection e with e1 e2 e3
    have hlt : g < W.heap.size := (World.ownsRow.lt h2k g (by rw [e1]; rfl)).2
    refine ⟨hm.symm, by rw [e2, e3]; exact hnc, by rw [e3]; exact hmx, .inr ⟨g, 0, e1, hlt, hlt, fun j x hj => ?_⟩⟩
    have hc := World.ownsRow.cells h2k (g := g) (by rw [e1]; rfl) j (.int .i64 x) (by rw [List.getElem?_map, hj]; rfl)
    rw [Addr.add_mid] at hc
    exact hc
def RrRes (w : World) (l : List UInt8) (e : Ending) (w' : World) : Prop :=
  Below w.heap.size w w' ∧ ∃ c d e' t, e = .returned (.tuple #[repV c d e' t, .bool (rrOk l)]) ∧ RepIs w' w'.heap.size c d e' t ∧ c = (if rrOk l = true then rrC l else zRep)
set_option maxRecDepth 100000 in
set_option maxHeartbeats 4000000 in
theorem readReply_any (A : Option Addr) (m c : Nat) (l : List UInt8) (w : World) (h : Rd w A m c l) (hl : l.length ≤ 100000000) :
    Calls Try.prog 20 #[.slice A m c] w (RrRes w l) := by
  obtain ⟨X, hX⟩ : ∃ X, X = w.heap.size := ⟨_, rfl⟩
  have H := Lib.hid (And.intro h (And.intro hl hX))
  clear h hl
  obtain ⟨C, hC⟩ : ∃ C, rrC l = C := ⟨_, rfl⟩
  obtain ⟨k1, k2, k3, k4, k5, k6⟩ := rrC_eqs l
  rw [hC] at k1 k2 k3 k4 k5 k6
  have hl1 : (rr1 l).1.length ≤ 100000000 := by unfold rr1; exact Nat.le_trans (gS_len _ _) H.out.2.1
  have hl2 : (rr2 l).1.length ≤ 100000000 := by unfold rr2; exact Nat.le_trans (gS_len _ _) hl1
  have hl3 : (rr3 l).1.length ≤ 100000000 := by unfold rr3; exact Nat.le_trans (gS_len _ _) hl2
  have hl4 : (rr4 l).1.length ≤ 100000000 := by unfold rr4; exact Nat.le_trans (yS_len _ _) hl3
  have hl5 : (rr5 l).1.length ≤ 100000000 := by unfold rr5; exact Nat.le_trans (gS_len _ _) hl4
  have hl6 : (rr6 l).1.length ≤ 100000000 := by unfold rr6; exact Nat.le_trans (giS_len _ _) hl5
  have HC := Lib.hid (And.intro hC (And.intro k1.symm (And.intro k2.symm (And.intro k3.symm (And.intro k4.symm (And.intro k5.symm k6.symm))))))
  have HL := Lib.hid (And.intro hl3 hl6)
  clear hC k1 k2 k3 k4 k5 k6 hl1 hl2 hl3 hl4 hl5 hl6
  go_enter Try.func20, Try.ntmps20
  go_wp2_with fail
  obtain ⟨wA, hwA⟩ : ∃ wA, (w.alloc (.cells #[.int .i64 0, .int .i64 0, .int .i64 0, .slice none 0 0, .slice none 0 0, .slice none 0 0] 48)).alloc (.cells #[.slice A m c, .bool false] 68) = wA := ⟨_, rfl⟩
  have hz1 : (w.alloc (.cells #[.int .i64 0, .int .i64 0, .int .i64 0, .slice none 0 0, .slice none 0 0, .slice none 0 0] 48)).heap.size = X + 1 := by rw [hX]; simp
  have bRes : Blk wA X 48 #[.int .i64 0, .int .i64 0, .int .i64 0, .slice none 0 0, .slice none 0 0, .slice none 0 0] := by rw [← hwA, hX]; exact (Blk.new _ _ _).alloc _
  have bRd : Blk wA (X + 1) 68 #[.slice A m c, .bool false] := by
    rw [← hwA]
    have := Blk.new (w.alloc (.cells #[.int .i64 0, .int .i64 0, .int .i64 0, .slice none 0 0, .slice none 0 0, .slice none 0 0] 48)) 68 #[.slice A m c, .bool false]
    rwa [hz1] at this
  have hbA : Below X w wA := by rw [← hwA, hX]; exact ((Below.refl _ _).alloc (Nat.le_refl _) _).alloc (by simp) _
  have hsA : wA.heap.size = X + 2 := by rw [← hwA, hX]; simp
  have hRA : RrS wA (X + 1) X (l, false) := ⟨A, m, c, bRd, H.out.1.below (by rw [← hX]; exact hbA), fun ad had => by rw [hX]; exact H.out.1.lt ad had, by omega⟩
  rw [hwA, ← hX]
  have HA := Lib.hid (And.intro bRes (And.intro hbA (And.intro hsA hRA)))
  clear hwA hz1 bRes bRd hbA hsA hRA hX
  refine (get_s (X + 1) X 4 (l, false) wA HA.out.2.2.2 (by omega)).mono ?_
  rintro e1 w1 ⟨rfl, hR1, hT1, hs1⟩
  rw [HC.out.2.1]
  have H1 := Lib.hid (And.intro hR1 (And.intro hT1 hs1))
  clear hR1 hT1 hs1
  go_wp2_with fail
  refine (get_s (X + 1) X 4 (rr1 l) w1 H1.out.1 (by omega)).mono ?_
  rintro e2 w2 ⟨rfl, hR2, hT2, hs2⟩
  rw [HC.out.2.2.1]
  have H2 := Lib.hid (And.intro hR2 (And.intro (H1.out.2.1.trans hT2 (fun _ hx => .inl hx)) (hs2.trans H1.out.2.2)))
  clear hR2 hT2 hs2
  go_wp2_with fail
  refine (get_s (X + 1) X 4 (rr2 l) w2 H2.out.1 (by omega)).mono ?_
  rintro e3 w3 ⟨rfl, hR3, hT3, hs3⟩
  rw [HC.out.2.2.2.1]
  have H3 := Lib.hid (And.intro hR3 (And.intro (H2.out.2.1.trans hT3 (fun _ hx => .inl hx)) (hs3.trans H2.out.2.2)))
  clear hR3 hT3 hs3
  go_wp2_with fail
  obtain ⟨wB, hwB⟩ : ∃ wB, w3.alloc (.cells #[.int .i64 C.rv, .int .i64 C.a, .int .i64 C.b, .slice none 0 0, .slice none 0 0, .slice none 0 0] 48) = wB := ⟨_, rfl⟩
  have hs3 : w3.heap.size = X + 2 := by rw [H3.out.2.2]; exact HA.out.2.2.1
  have bC : Blk wB (X + 2) 48 #[.int .i64 C.rv, .int .i64 C.a, .int .i64 C.b, .slice none 0 0, .slice none 0 0, .slice none 0 0] := by rw [← hwB, ← hs3]; exact Blk.new _ _ _
  have hb3 : Below w3.heap.size w3 wB := by rw [← hwB]; exact (Below.refl _ _).alloc (Nat.le_refl _) _
  have hRB : RrS wB (X + 1) X (rr3 l) := H3.out.1.old hb3
  have bRB : Blk wB X 48 #[.int .i64 0, .int .i64 0, .int .i64 0, .slice none 0 0, .slice none 0 0, .slice none 0 0] := (HA.out.1.turn H3.out.2.1 (by simp)).below hb3
  have hsB : wB.heap.size = X + 3 := by rw [← hwB]; simp [hs3]
  have hBB : Below X w wB := (below_turn HA.out.2.1 H3.out.2.1 (by simp) (by rw [HA.out.2.2.1]; omega)).trans (hb3.mono (by omega))
  rw [hwB]
  try rw [hs3]
  have HB := Lib.hid (And.intro bC (And.intro hRB (And.intro bRB (And.intro hsB hBB))))
  clear hwB bC hRB bRB hsB hBB hb3 hs3
  refine (rbytes_s (X + 1) X 4 (rr3 l) wB HB.out.2.1 (by omega) HL.out.1).mono ?_
  rintro e4 w4 ⟨A4, n4, c4, rfl, hO4, hR4, hT4⟩
  rw [HC.out.2.2.2.2.1] at hO4
  have bC4 := HB.out.1.turn hT4 (by simp)
  have q3 := bC4.cell 3
  have f3 := bC4.frozen 3
  simp only [List.getElem?_toArray, List.getElem?_cons_succ, List.getElem?_cons_zero] at q3
  have H4 := Lib.hid (And.intro hO4 (And.intro hR4 (And.intro hT4 bC4)))
  clear hO4 hR4 hT4 bC4
  go_wp2_with fail
  obtain ⟨wE, hwE⟩ : ∃ wE, w4.setCell ⟨X + 2, 3, none⟩ (.slice A4 n4 c4) = wE := ⟨_, rfl⟩
  have hTE : Turn [X + 2] w4 wE := by rw [← hwE]; exact (Turn.refl _ _).setCell (.inl (by simp)) _
  have bCE : Blk wE (X + 2) 48 #[.int .i64 C.rv, .int .i64 C.a, .int .i64 C.b, .slice A4 n4 c4, .slice none 0 0, .slice none 0 0] := by
    rw [← hwE]
    have := H4.out.2.2.2.set_ 3 (.slice A4 n4 c4)
    simpa using this
  have hsB := HB.out.2.2.2.1
  have hT4s := H4.out.2.2.1.size
  have hRE : RrS wE (X + 1) X (rr4 l) := by
    obtain ⟨A', m', c', z1, z2, z3, z4⟩ := H4.out.2.1
    exact ⟨A', m', c', z1.turn hTE (by simp), z2.turn hTE (fun ad had hm => by have := z3 ad had; simp at hm; omega), z3, z4⟩
  have hO4' : Own wE (X + 3) (.slice A4 n4 c4) C.data := (H4.out.1.mono (by omega)).turn hTE (fun g hg hm => by have := (H4.out.1.lt hg).1; simp at hm; omega)
  have bRE : Blk wE X 48 #[.int .i64 0, .int .i64 0, .int .i64 0, .slice none 0 0, .slice none 0 0, .slice none 0 0] := (HB.out.2.2.1.turn H4.out.2.2.1 (by simp)).turn hTE (by simp)
  have hBE : Below X w wE := below_turn (below_turn HB.out.2.2.2.2 H4.out.2.2.1 (by simp) (by omega)) hTE (by simp) (by omega)
  have hsE : X + 3 ≤ wE.heap.size := by have := hTE.size; omega
  rw [hwE]
  have HE := Lib.hid (And.intro bCE (And.intro hRE (And.intro hO4' (And.intro bRE (And.intro hBE hsE)))))
  clear hwE hTE bCE hRE hO4' bRE hBE hsE hsB hT4s q3 f3
  refine (get_s (X + 1) X 2 (rr4 l) wE HE.out.2.1 (by omega)).mono ?_
  rintro e5 w5 ⟨rfl, hR5, hT5, hs5⟩
  obtain ⟨n, hn⟩ : ∃ n, be (tkO (rr4 l).1 2) = n := ⟨_, rfl⟩
  have hgn : gO (rr4 l) 2 = (n : Int) := by unfold gO; rw [hn]
  have hMn : rrM l = min n 1025 := by unfold rrM; rw [hn]
  obtain ⟨s5, hs5e⟩ : ∃ s5, rr5 l = s5 := ⟨_, rfl⟩
  have hR5' : RrS w5 (X + 1) X s5 := by rw [← hs5e]; exact hR5
  rw [hgn]
  have H5 := Lib.hid (And.intro hR5' (And.intro hT5 (And.intro hs5 (And.intro hMn hs5e))))
  clear hR5 hR5' hT5 hs5 hMn hs5e hn hgn
  by_cases hbig : 1025 < n
  · have hb : (1025 : Int) < n := by omega
    go_wp2_with fail
    go_loopw [24] (fun kk wr => ∃ k : Nat, k ≤ 1025 ∧ kk = .int .i64 (k : Int) ∧ ∃ Al nl cl, Blk wr (X + 2) 48 #[.int .i64 C.rv, .int .i64 C.a, .int .i64 C.b, .slice A4 n4 c4, .slice Al nl cl, .slice none 0 0] ∧ OwnI wr (X + 3) (.slice Al nl cl) (giS s5 k).1 ∧ RrS wr (X + 1) X (giS s5 k).2 ∧ Blk wr X 48 #[.int .i64 0, .int .i64 0, .int .i64 0, .slice none 0 0, .slice none 0 0, .slice none 0 0] ∧ Below X w wr ∧ Own wr (X + 3) (.slice A4 n4 c4) C.data) (fun kk _ => 1025 - (intOf kk).toNat)
    case atStart => exact ⟨0, by omega, rfl, none, 0, 0, HE.out.1.turn H5.out.2.1 (by simp), OwnI.nil _ _, H5.out.1, HE.out.2.2.2.1.turn H5.out.2.1 (by simp), below_turn HE.out.2.2.2.2.1 H5.out.2.1 (by simp) (by have := HE.out.2.2.2.2.2; omega), HE.out.2.2.1.turn H5.out.2.1 (fun g hg hm => by have := (HE.out.2.2.1.lt hg).1; simp at hm; omega)⟩
    case round =>
      obtain ⟨k, hk, rfl, Al, nl, cl, bC, hOI, hR, bR, hB, hO4⟩ := hrel
      by_cases hlt : k < 1025
      · have hlti : (k : Int) < 1025 := by omega
        have hltd : decide ((k : Int) < 1025) = true := decide_eq_true hlti
        have hk0 : ¬ ((k : Int) < 0) := by omega
        have hcnt := giS_cnt s5 k
        have hgs : giS s5 (k + 1) = ((giS s5 k).1 ++ [gO (giS s5 k).2 4], gS (giS s5 k).2 4) := rfl
        obtain ⟨r, hr⟩ : ∃ r, giS s5 k = r := ⟨_, rfl⟩
        rw [hr] at hOI hR hcnt hgs
        obtain ⟨x, hx⟩ : ∃ x, gO r.2 4 = x := ⟨_, rfl⟩
        have HR := Lib.hid (And.intro bC (And.intro hOI (And.intro hR (And.intro bR (And.intro hB (And.intro hO4 (And.intro hcnt (And.intro hgs hx))))))))
        have hszC := bC.lt
        have HSz := Lib.hid hszC
        clear bC hOI hR bR hB hO4 hcnt hgs hx hr hszC
        go_wp2_with fail
        refine region_turn ((X + 1) :: (X + 2) :: (Value.slice Al nl cl).ownBlock.toList) (by kernel_rfl) (fun wd hOld hHeld hSz => ?_)
        have bCd : Blk wd (X + 2) 48 #[.int .i64 C.rv, .int .i64 C.a, .int .i64 C.b, .slice A4 n4 c4, .slice Al nl cl, .slice none 0 0] := HR.out.1.below hOld
        have hRd : RrS wd (X + 1) X r.2 := HR.out.2.2.1.old hOld
        have hOd : OwnI wd (X + 3) (.slice Al nl cl) r.1 := HR.out.2.1.below hOld
        have c0 := bCd.cell 4
        simp only [List.getElem?_toArray, List.getElem?_cons_succ, List.getElem?_cons_zero] at c0
        have HD := Lib.hid (And.intro bCd (And.intro hRd (And.intro hOd (And.intro hOld hSz))))
        clear bCd hRd hOd hOld hSz
        refine takeL (i := 0) (v := ?_) rfl (by kernel_rfl) (by kernel_rfl) (by kernel_rfl) (fun _ _ _ h => h) (Or.inl ⟨by rfl, ?_⟩) hHeld ?_
        rotate_left
        focus (intro wq hSw; clear hSw; go_simp; try with_reducible rfl)
        try simp only [Act.put, List.setIfInBounds_toArray, List.set_cons_zero, List.set_cons_succ]
        refine takeL (i := 2) (v := ?_) rfl (by kernel_rfl) (by kernel_rfl) (by kernel_rfl) (fun _ _ _ h => h) (Or.inl ⟨by rfl, ?_⟩) hHeld ?_
        rotate_left
        focus (intro wq hSw; clear hSw; go_simp; try with_reducible rfl)
        try simp only [Act.put, List.setIfInBounds_toArray, List.set_cons_zero, List.set_cons_succ]
        refine wpAnyH_ready (rs := [1, 3]) (by kernel_rfl) (by simp) ?_
        refine consL rfl (fun K hK => ?_) (consL rfl (fun K hK => ?_) AllReadyH.nil)
        · go_simp
          refine hK.out _ _ hHeld (fun hHeld => ?_)
          clear hK K c0
          try simp only [Act.put, List.setIfInBounds_toArray, List.set_cons_zero, List.set_cons_succ]
          refine wpAnyH_ready (rs := [3]) (by kernel_rfl) (by simp) ?_
          refine consL rfl (fun K hK => ?_) AllReadyH.nil
          go_simp
          refine (get_s (X + 1) X 4 r.2 wd HD.out.2.1 (by omega)).mono ?_
          rintro e8 w8 ⟨rfl, hR8, hT8, hs8⟩
          rw [HR.out.2.2.2.2.2.2.2.2]
          have hz := hHeld.trans hT8 (fun x hx => .inl (by simp at hx; rw [hx]; simp))
          have bC8 : Blk w8 (X + 2) 48 #[.int .i64 C.rv, .int .i64 C.a, .int .i64 C.b, .slice A4 n4 c4, .slice Al nl cl, .slice none 0 0] := HD.out.1.turn hT8 (by simp)
          have hO8 : OwnI w8 (X + 3) (.slice Al nl cl) r.1 := HD.out.2.2.1.turn hT8 (fun g hg hm => by have := (HD.out.2.2.1.lt hg).1; simp at hm; omega)
          have H8 := Lib.hid (And.intro hR8 (And.intro hT8 (And.intro hs8 (And.intro bC8 hO8))))
          refine hK.out _ _ hz (fun hHeld => ?_)
          clear hK K hR8 hT8 hs8 bC8 hO8 hz
          try simp only [Act.put, List.setIfInBounds_toArray, List.set_cons_zero, List.set_cons_succ]
          refine wpAnyH_ready (rs := [4]) (by kernel_rfl) (by simp) ?_
          refine consL rfl (fun K hK => ?_) AllReadyH.nil
          go_simp
          have hz := hHeld.alloc (.cells #[.int .i64 x] 3)
          refine hK.out _ _ hz (fun hHeld => ?_)
          clear hK K hz
          try simp only [Act.put, List.setIfInBounds_toArray, List.set_cons_zero, List.set_cons_succ]
          have hal : Below w8.heap.size w8 (w8.alloc (.cells #[.int .i64 x] 3)) := (Below.refl _ _).alloc (Nat.le_refl _) _
          refine wpAnyH_ready (rs := [5]) (by kernel_rfl) (by simp) ?_
          refine consL rfl (fun K hK => ?_) AllReadyH.nil
          refine step_appI (.tmp 27) (.tmp 30) (X + 3) (.slice Al nl cl) r.1 (H8.out.2.2.2.2.below hal) (by simp; have := H8.out.2.2.1; have := HD.out.2.2.2.1.size; have := HSz.out; omega) w8.heap.size x (Blk.new _ _ _) (by have := HR.out.2.2.2.2.2.2.1; omega) rfl rfl rfl rfl ?_
          intro A9 n9 c9 w9 hG
          have hz := hHeld.grown hG.grown (fun k hk => .inl (by rw [hk]; simp))
          have bC9 : Blk w9 (X + 2) 48 #[.int .i64 C.rv, .int .i64 C.a, .int .i64 C.b, .slice A4 n4 c4, .slice Al nl cl, .slice none 0 0] := (H8.out.2.2.2.1.below hal).keep (hG.below.block _ (by omega))
          have c9 := bC9.cell 4
          simp only [List.getElem?_toArray, List.getElem?_cons_succ, List.getElem?_cons_zero] at c9
          have f9 := bC9.frozen 4
          have H9 := Lib.hid (And.intro hG (And.intro bC9 hal))
          refine hK.out _ _ hz (fun hHeld => ?_)
          clear hK K hz hG bC9 hal
          try simp only [Act.put, List.setIfInBounds_toArray, List.set_cons_zero, List.set_cons_succ]
          refine takeL (i := 6) (v := ?_) rfl (by kernel_rfl) (by kernel_rfl) (by kernel_rfl) (fun _ _ _ h => h) (Or.inl ⟨by rfl, ?_⟩) hHeld ?_
          rotate_left
          focus (intro wq hSw; clear hSw; go_simp; try with_reducible rfl)
          try simp only [Act.put, List.setIfInBounds_toArray, List.set_cons_zero, List.set_cons_succ]
          refine wpAnyH_ready (rs := [7]) (by kernel_rfl) (by simp) ?_
          refine consL rfl (fun K hK => ?_) AllReadyH.nil
          go_simp
          refine hK.out _ _ (hHeld.setCell (.inl (by simp)) _) (fun hHeld => ?_)
          clear hK K c9 f9
          try simp only [Act.put, List.setIfInBounds_toArray, List.set_cons_zero, List.set_cons_succ]
          refine wpAnyH_done (by kernel_rfl) ?_ _
          refine NoPanic.normal ?_
          have HH := Lib.hid hHeld
          clear hHeld
          go_wp2_with fail
          go_roundw
          case measure => simp [intOf]; omega
          have hTf : Turn [X + 2] w9 (w9.setCell ⟨X + 2, 4, none⟩ (.slice A9 n9 c9)) := (Turn.refl _ _).setCell (.inl (by simp)) _
          have hin : ∀ g, (Value.slice Al nl cl).ownBlock = some g → X + 3 ≤ g := fun g hg => (HR.out.2.1.lt hg).1
          refine ⟨k + 1, by omega, by simp, A9, n9, c9, ?_, ?_, ?_, HR.out.2.2.2.1.turn HH.out (fun hm => ?_), below_turn HR.out.2.2.2.2.1 HH.out (fun t ht => ?_) (by have := HSz.out; omega), HR.out.2.2.2.2.2.1.turn HH.out (fun g hg hm => ?_)⟩
          · have := H9.out.2.1.set_ 4 (.slice A9 n9 c9)
            simpa using this
          · rw [HR.out.2.2.2.2.2.2.2.1, HR.out.2.2.2.2.2.2.2.2]
            exact H9.out.1.own.turn hTf (fun g hg hm => by have := (H9.out.1.own.lt hg).1; simp at hm; omega)
          · rw [HR.out.2.2.2.2.2.2.2.1]
            have h1 := (Rr.old H8.out.1 H9.out.2.2).oldB H9.out.1.below (by omega)
            obtain ⟨A', m', c', z1, z2, z3, z4⟩ := h1
            exact ⟨A', m', c', z1.turn hTf (by simp), z2.turn hTf (fun ad had hm => by have := z3 ad had; simp at hm; omega), z3, z4⟩
          · simp at hm
            have := hin _ hm
            omega
          · rcases List.mem_cons.1 ht with e | e
            · omega
            · rcases List.mem_cons.1 e with e | e
              · omega
              · have := hin t (by simpa using e); omega
          · have h3 := (HR.out.2.2.2.2.2.1.lt hg).1
            rcases List.mem_cons.1 hm with e | e
            · omega
            · rcases List.mem_cons.1 e with e | e
              · omega
              · obtain ⟨cs, hcs⟩ := HR.out.2.1.blk (show _ = some g by simpa using e)
                exact HR.out.2.2.2.2.2.1.ne hcs (by decide) hg
        · go_simp
          refine (get_s (X + 1) X 4 r.2 wd HD.out.2.1 (by omega)).mono ?_
          rintro e8 w8 ⟨rfl, hR8, hT8, hs8⟩
          rw [HR.out.2.2.2.2.2.2.2.2]
          have hz := hHeld.trans hT8 (fun x hx => .inl (by simp at hx; rw [hx]; simp))
          have bC8 : Blk w8 (X + 2) 48 #[.int .i64 C.rv, .int .i64 C.a, .int .i64 C.b, .slice A4 n4 c4, .slice Al nl cl, .slice none 0 0] := HD.out.1.turn hT8 (by simp)
          have hO8 : OwnI w8 (X + 3) (.slice Al nl cl) r.1 := HD.out.2.2.1.turn hT8 (fun g hg hm => by have := (HD.out.2.2.1.lt hg).1; simp at hm; omega)
          have H8 := Lib.hid (And.intro hR8 (And.intro hT8 (And.intro hs8 (And.intro bC8 hO8))))
          refine hK.out _ _ hz (fun hHeld => ?_)
          clear hK K hR8 hT8 hs8 bC8 hO8 hz
          try simp only [Act.put, List.setIfInBounds_toArray, List.set_cons_zero, List.set_cons_succ]
          have c0 := H8.out.2.2.2.1.cell 4
          simp only [List.getElem?_toArray, List.getElem?_cons_succ, List.getElem?_cons_zero] at c0
          refine wpAnyH_ready (rs := [1, 4]) (by kernel_rfl) (by simp) ?_
          refine consL rfl (fun K hK => ?_) (consL rfl (fun K hK => ?_) AllReadyH.nil)
          · go_simp
            refine hK.out _ _ hHeld (fun hHeld => ?_)
            clear hK K c0
            try simp only [Act.put, List.setIfInBounds_toArray, List.set_cons_zero, List.set_cons_succ]
            refine wpAnyH_ready (rs := [4]) (by kernel_rfl) (by simp) ?_
            refine consL rfl (fun K hK => ?_) AllReadyH.nil
            go_simp
            have hz := hHeld.alloc (.cells #[.int .i64 x] 3)
            refine hK.out _ _ hz (fun hHeld => ?_)
            clear hK K hz
            try simp only [Act.put, List.setIfInBounds_toArray, List.set_cons_zero, List.set_cons_succ]
            have hal : Below w8.heap.size w8 (w8.alloc (.cells #[.int .i64 x] 3)) := (Below.refl _ _).alloc (Nat.le_refl _) _
            refine wpAnyH_ready (rs := [5]) (by kernel_rfl) (by simp) ?_
            refine consL rfl (fun K hK => ?_) AllReadyH.nil
            refine step_appI (.tmp 27) (.tmp 30) (X + 3) (.slice Al nl cl) r.1 (H8.out.2.2.2.2.below hal) (by simp; have := H8.out.2.2.1; have := HD.out.2.2.2.1.size; have := HSz.out; omega) w8.heap.size x (Blk.new _ _ _) (by have := HR.out.2.2.2.2.2.2.1; omega) rfl rfl rfl rfl ?_
            intro A9 n9 c9 w9 hG
            have hz := hHeld.grown hG.grown (fun k hk => .inl (by rw [hk]; simp))
            have bC9 : Blk w9 (X + 2) 48 #[.int .i64 C.rv, .int .i64 C.a, .int .i64 C.b, .slice A4 n4 c4, .slice Al nl cl, .slice none 0 0] := (H8.out.2.2.2.1.below hal).keep (hG.below.block _ (by omega))
            have c9 := bC9.cell 4
            simp only [List.getElem?_toArray, List.getElem?_cons_succ, List.getElem?_cons_zero] at c9
            have f9 := bC9.frozen 4
            have H9 := Lib.hid (And.intro hG (And.intro bC9 hal))
            refine hK.out _ _ hz (fun hHeld => ?_)
            clear hK K hz hG bC9 hal
            try simp only [Act.put, List.setIfInBounds_toArray, List.set_cons_zero, List.set_cons_succ]
            refine takeL (i := 6) (v := ?_) rfl (by kernel_rfl) (by kernel_rfl) (by kernel_rfl) (fun _ _ _ h => h) (Or.inl ⟨by rfl, ?_⟩) hHeld ?_
            rotate_left
            focus (intro wq hSw; clear hSw; go_simp; try with_reducible rfl)
            try simp only [Act.put, List.setIfInBounds_toArray, List.set_cons_zero, List.set_cons_succ]
            refine wpAnyH_ready (rs := [7]) (by kernel_rfl) (by simp) ?_
            refine consL rfl (fun K hK => ?_) AllReadyH.nil
            go_simp
            refine hK.out _ _ (hHeld.setCell (.inl (by simp)) _) (fun hHeld => ?_)
            clear hK K c9 f9
            try simp only [Act.put, List.setIfInBounds_toArray, List.set_cons_zero, List.set_cons_succ]
            refine wpAnyH_done (by kernel_rfl) ?_ _
            refine NoPanic.normal ?_
            have HH := Lib.hid hHeld
            clear hHeld
            go_wp2_with fail
            go_roundw
            case measure => simp [intOf]; omega
            have hTf : Turn [X + 2] w9 (w9.setCell ⟨X + 2, 4, none⟩ (.slice A9 n9 c9)) := (Turn.refl _ _).setCell (.inl (by simp)) _
            have hin : ∀ g, (Value.slice Al nl cl).ownBlock = some g → X + 3 ≤ g := fun g hg => (HR.out.2.1.lt hg).1
            refine ⟨k + 1, by omega, by simp, A9, n9, c9, ?_, ?_, ?_, HR.out.2.2.2.1.turn HH.out (fun hm => ?_), below_turn HR.out.2.2.2.2.1 HH.out (fun t ht => ?_) (by have := HSz.out; omega), HR.out.2.2.2.2.2.1.turn HH.out (fun g hg hm => ?_)⟩
            · have := H9.out.2.1.set_ 4 (.slice A9 n9 c9)
              simpa using this
            · rw [HR.out.2.2.2.2.2.2.2.1, HR.out.2.2.2.2.2.2.2.2]
              exact H9.out.1.own.turn hTf (fun g hg hm => by have := (H9.out.1.own.lt hg).1; simp at hm; omega)
            · rw [HR.out.2.2.2.2.2.2.2.1]
              have h1 := (Rr.old H8.out.1 H9.out.2.2).oldB H9.out.1.below (by omega)
              obtain ⟨A', m', c', z1, z2, z3, z4⟩ := h1
              exact ⟨A', m', c', z1.turn hTf (by simp), z2.turn hTf (fun ad had hm => by have := z3 ad had; simp at hm; omega), z3, z4⟩
            · simp at hm
              have := hin _ hm
              omega
            · rcases List.mem_cons.1 ht with e | e
              · omega
              · rcases List.mem_cons.1 e with e | e
                · omega
                · have := hin t (by simpa using e); omega
            · have h3 := (HR.out.2.2.2.2.2.1.lt hg).1
              rcases List.mem_cons.1 hm with e | e
              · omega
              · rcases List.mem_cons.1 e with e | e
                · omega
                · obtain ⟨cs, hcs⟩ := HR.out.2.1.blk (show _ = some g by simpa using e)
                  exact HR.out.2.2.2.2.2.1.ne hcs (by decide) hg
          · go_simp
            have hz := hHeld.alloc (.cells #[.int .i64 x] 3)
            refine hK.out _ _ hz (fun hHeld => ?_)
            clear hK K hz
            try simp only [Act.put, List.setIfInBounds_toArray, List.set_cons_zero, List.set_cons_succ]
            have hal : Below w8.heap.size w8 (w8.alloc (.cells #[.int .i64 x] 3)) := (Below.refl _ _).alloc (Nat.le_refl _) _
            have c0 := (H8.out.2.2.2.1.below hal).cell 4
            simp only [List.getElem?_toArray, List.getElem?_cons_succ, List.getElem?_cons_zero] at c0
            refine wpAnyH_ready (rs := [1]) (by kernel_rfl) (by simp) ?_
            refine consL rfl (fun K hK => ?_) AllReadyH.nil
            go_simp
            refine hK.out _ _ hHeld (fun hHeld => ?_)
            clear hK K c0
            try simp only [Act.put, List.setIfInBounds_toArray, List.set_cons_zero, List.set_cons_succ]
            refine wpAnyH_ready (rs := [5]) (by kernel_rfl) (by simp) ?_
            refine consL rfl (fun K hK => ?_) AllReadyH.nil
            refine step_appI (.tmp 27) (.tmp 30) (X + 3) (.slice Al nl cl) r.1 (H8.out.2.2.2.2.below hal) (by simp; have := H8.out.2.2.1; have := HD.out.2.2.2.1.size; have := HSz.out; omega) w8.heap.size x (Blk.new _ _ _) (by have := HR.out.2.2.2.2.2.2.1; omega) rfl rfl rfl rfl ?_
            intro A9 n9 c9 w9 hG
            have hz := hHeld.grown hG.grown (fun k hk => .inl (by rw [hk]; simp))
            have bC9 : Blk w9 (X + 2) 48 #[.int .i64 C.rv, .int .i64 C.a, .int .i64 C.b, .slice A4 n4 c4, .slice Al nl cl, .slice none 0 0] := (H8.out.2.2.2.1.below hal).keep (hG.below.block _ (by omega))
            have c9 := bC9.cell 4
            simp only [List.getElem?_toArray, List.getElem?_cons_succ, List.getElem?_cons_zero] at c9
            have f9 := bC9.frozen 4
            have H9 := Lib.hid (And.intro hG (And.intro bC9 hal))
            refine hK.out _ _ hz (fun hHeld => ?_)
            clear hK K hz hG bC9 hal
            try simp only [Act.put, List.setIfInBounds_toArray, List.set_cons_zero, List.set_cons_succ]
            refine takeL (i := 6) (v := ?_) rfl (by kernel_rfl) (by kernel_rfl) (by kernel_rfl) (fun _ _ _ h => h) (Or.inl ⟨by rfl, ?_⟩) hHeld ?_
            rotate_left
            focus (intro wq hSw; clear hSw; go_simp; try with_reducible rfl)
            try simp only [Act.put, List.setIfInBounds_toArray, List.set_cons_zero, List.set_cons_succ]
            refine wpAnyH_ready (rs := [7]) (by kernel_rfl) (by simp) ?_
            refine consL rfl (fun K hK => ?_) AllReadyH.nil
            go_simp
            refine hK.out _ _ (hHeld.setCell (.inl (by simp)) _) (fun hHeld => ?_)
            clear hK K c9 f9
            try simp only [Act.put, List.setIfInBounds_toArray, List.set_cons_zero, List.set_cons_succ]
            refine wpAnyH_done (by kernel_rfl) ?_ _
            refine NoPanic.normal ?_
            have HH := Lib.hid hHeld
            clear hHeld
            go_wp2_with fail
            go_roundw
            case measure => simp [intOf]; omega
            have hTf : Turn [X + 2] w9 (w9.setCell ⟨X + 2, 4, none⟩ (.slice A9 n9 c9)) := (Turn.refl _ _).setCell (.inl (by simp)) _
            have hin : ∀ g, (Value.slice Al nl cl).ownBlock = some g → X + 3 ≤ g := fun g hg => (HR.out.2.1.lt hg).1
            refine ⟨k + 1, by omega, by simp, A9, n9, c9, ?_, ?_, ?_, HR.out.2.2.2.1.turn HH.out (fun hm => ?_), below_turn HR.out.2.2.2.2.1 HH.out (fun t ht => ?_) (by have := HSz.out; omega), HR.out.2.2.2.2.2.1.turn HH.out (fun g hg hm => ?_)⟩
            · have := H9.out.2.1.set_ 4 (.slice A9 n9 c9)
              simpa using this
            · rw [HR.out.2.2.2.2.2.2.2.1, HR.out.2.2.2.2.2.2.2.2]
              exact H9.out.1.own.turn hTf (fun g hg hm => by have := (H9.out.1.own.lt hg).1; simp at hm; omega)
            · rw [HR.out.2.2.2.2.2.2.2.1]
              have h1 := (Rr.old H8.out.1 H9.out.2.2).oldB H9.out.1.below (by omega)
              obtain ⟨A', m', c', z1, z2, z3, z4⟩ := h1
              exact ⟨A', m', c', z1.turn hTf (by simp), z2.turn hTf (fun ad had hm => by have := z3 ad had; simp at hm; omega), z3, z4⟩
            · simp at hm
              have := hin _ hm
              omega
            · rcases List.mem_cons.1 ht with e | e
              · omega
              · rcases List.mem_cons.1 e with e | e
                · omega
                · have := hin t (by simpa using e); omega
            · have h3 := (HR.out.2.2.2.2.2.1.lt hg).1
              rcases List.mem_cons.1 hm with e | e
              · omega
              · rcases List.mem_cons.1 e with e | e
                · omega
                · obtain ⟨cs, hcs⟩ := HR.out.2.1.blk (show _ = some g by simpa using e)
                  exact HR.out.2.2.2.2.2.1.ne hcs (by decide) hg
      · obtain rfl : k = 1025 := by omega
        have hlti : ¬ ((1025 : Nat) : Int) < 1025 := by omega
        have hMe : rrM l = 1025 := by rw [H5.out.2.2.2.1]; omega
        have hli : C.list = (giS s5 1025).1 := by have := HC.out.2.2.2.2.2.1; rw [H5.out.2.2.2.2, hMe] at this; exact this.symm
        have hr6 : rr6 l = (giS s5 1025).2 := by unfold rr6; rw [H5.out.2.2.2.2, hMe]
        rw [← hli] at hOI
        rw [← hr6] at hR
        have HR := Lib.hid (And.intro bC (And.intro hOI (And.intro hR (And.intro bR (And.intro hB hO4)))))
        clear bC hOI hR bR hB hO4 hli hr6 hMe
        go_wp2_with fail
        refine (rattrs_s (X + 1) X (rr6 l) wr HR.out.2.2.1 HL.out.2).mono ?_
        rintro e6 w6 ⟨A6, n6, c6, rfl, hO6, hR6, hT6⟩
        rw [HC.out.2.2.2.2.2.2] at hO6
        have bC6 := HR.out.1.turn hT6 (by simp)
        have q0 := bC6.cell 0
        have q1 := bC6.cell 1
        have q2 := bC6.cell 2
        have q3 := bC6.cell 3
        have q4 := bC6.cell 4
        have q5 := bC6.cell 5
        simp only [List.getElem?_toArray, List.getElem?_cons_succ, List.getElem?_cons_zero] at q0 q1 q2 q3 q4 q5
        have f5 := bC6.frozen 5
        have hz6 := hT6.size
        have hR7 : RrS w6 (X + 1) X (rr7 l) := by unfold rr7; exact hR6
        have hXr := HR.out.1.lt
        have H6 := Lib.hid (And.intro hO6 (And.intro hR7 (And.intro hT6 (And.intro hz6 (And.intro bC6 hXr)))))
        clear hO6 hR6 hR7 hT6 hz6 bC6 hXr
        go_wp2_with fail
        obtain ⟨wF, hwF⟩ : ∃ wF, w6.setCell ⟨X + 2, 5, none⟩ (.slice A6 n6 c6) = wF := ⟨_, rfl⟩
        have hTF : Turn [X + 2] w6 wF := by rw [← hwF]; exact (Turn.refl _ _).setCell (.inl (by simp)) _
        have bCF : Blk wF (X + 2) 48 #[.int .i64 C.rv, .int .i64 C.a, .int .i64 C.b, .slice A4 n4 c4, .slice Al nl cl, .slice A6 n6 c6] := by
          rw [← hwF]
          have := H6.out.2.2.2.2.1.set_ 5 (.slice A6 n6 c6)
          simpa using this
        have hRF : RrS wF (X + 1) X (rr7 l) := by
          obtain ⟨A', m', c', z1, z2, z3, z4⟩ := H6.out.2.1
          exact ⟨A', m', c', z1.turn hTF (by simp), z2.turn hTF (fun ad had hm => by have := z3 ad had; simp at hm; omega), z3, z4⟩
        have h6s := H6.out.2.2.2.1
        have hXr := H6.out.2.2.2.2.2
        have hO4F : Own wF (X + 3) (.slice A4 n4 c4) C.data := (HR.out.2.2.2.2.2.turn H6.out.2.2.1 (fun g hg hm => by have := (HR.out.2.2.2.2.2.lt hg).1; simp at hm; omega)).turn hTF (fun g hg hm => by have := (HR.out.2.2.2.2.2.lt hg).1; simp at hm; omega)
        have hOIF : OwnI wF (X + 3) (.slice Al nl cl) C.list := (HR.out.2.1.turn H6.out.2.2.1 (fun g hg hm => by have := (HR.out.2.1.lt hg).1; simp at hm; omega)).turn hTF (fun g hg hm => by have := (HR.out.2.1.lt hg).1; simp at hm; omega)
        have hO6F : OwnAts wF (X + 3) ⟨A6, n6, c6⟩ C.attrs := (H6.out.1.mono (by omega)).turn hTF (by simp)
        have hI : RepIs wF wF.heap.size C ⟨A4, n4, c4⟩ ⟨Al, nl, cl⟩ ⟨A6, n6, c6⟩ := ⟨RdB.ofRd hO4F.rd, OwnI.at_ (s := ⟨Al, nl, cl⟩) hOIF, hO6F.at_, hO6F.max⟩
        have bRF : Blk wF X 48 #[.int .i64 0, .int .i64 0, .int .i64 0, .slice none 0 0, .slice none 0 0, .slice none 0 0] := (HR.out.2.2.2.1.turn H6.out.2.2.1 (by simp)).turn hTF (by simp)
        have hsF : X + 3 ≤ wF.heap.size := by have := hTF.size; omega
        have hBF : Below X w wF := below_turn (below_turn HR.out.2.2.2.2.1 H6.out.2.2.1 (by simp) (by omega)) hTF (by simp) (by omega)
        rw [hwF]
        have HOw := Lib.hid (And.intro hO4F (And.intro hOIF hO6F))
        have HF := Lib.hid (And.intro bCF (And.intro hRF (And.intro hI (And.intro bRF (And.intro hBF hsF)))))
        clear hwF hTF bCF hRF h6s hXr hO4F hOIF hO6F hI bRF hsF hBF f5 q0 q1 q2 q3 q4 q5
        refine (reply_o C ⟨A4, n4, c4⟩ ⟨Al, nl, cl⟩ ⟨A6, n6, c6⟩ wF HF.out.2.2.1).mono ?_
        rintro e8 w8 ⟨hb8, hres⟩
        obtain ⟨rA, rm, rc, hrB, hrR, hrA, hrp⟩ := HF.out.2.1
        have hbad := (hrB.below hb8).cell 1
        simp only [List.getElem?_toArray, List.getElem?_cons_succ, List.getElem?_cons_zero] at hbad
        have bC8 : Blk w8 (X + 2) 48 #[.int .i64 C.rv, .int .i64 C.a, .int .i64 C.b, .slice A4 n4 c4, .slice Al nl cl, .slice A6 n6 c6] := HF.out.1.below hb8
        have bR8 : Blk w8 X 48 #[.int .i64 0, .int .i64 0, .int .i64 0, .slice none 0 0, .slice none 0 0, .slice none 0 0] := HF.out.2.2.2.1.below hb8
        have hI8 : RepIs w8 w8.heap.size C ⟨A4, n4, c4⟩ ⟨Al, nl, cl⟩ ⟨A6, n6, c6⟩ := (HF.out.2.2.1.old hb8).mono hb8.size
        have hB8 : Below X w w8 := HF.out.2.2.2.2.1.trans (hb8.mono (by have := HF.out.2.2.2.2.2; omega))
        have hl8 : Rd w8 A m c l := H.out.1.below (by rw [← H.out.2.2]; exact hB8)
        have hok0 : rrOk l = (!(rr7 l).2 && match frameO (replyO C) with | none => false | some f => decide (f.drop 4 = l)) := by unfold rrOk; rw [HC.out.1]; rfl
        have hI9 : ∀ w9, Turn [X] w8 w9 → RepIs w9 w9.heap.size C ⟨A4, n4, c4⟩ ⟨Al, nl, cl⟩ ⟨A6, n6, c6⟩ := fun w9 hT9 => by
          have g4 : Own w9 (X + 3) (.slice A4 n4 c4) C.data := (HOw.out.1.below hb8).turn hT9 (fun g hg hm => by have := (HOw.out.1.lt hg).1; simp at hm; omega)
          have gI : OwnI w9 (X + 3) (.slice Al nl cl) C.list := (HOw.out.2.1.below hb8).turn hT9 (fun g hg hm => by have := (HOw.out.2.1.lt hg).1; simp at hm; omega)
          have g6 : OwnAts w9 (X + 3) ⟨A6, n6, c6⟩ C.attrs := (HOw.out.2.2.below hb8).turn hT9 (by simp)
          exact ⟨RdB.ofRd g4.rd, OwnI.at_ (s := ⟨Al, nl, cl⟩) gI, g6.at_, g6.max⟩
        have HI9 := Lib.hid hI9
        clear hI9
        have H8 := Lib.hid (And.intro bC8 (And.intro bR8 (And.intro hI8 (And.intro hB8 hl8))))
        have HO := Lib.hid hok0
        clear hb8 bC8 bR8 hI8 hB8 hl8 hok0 hrB hrR hrA hrp
        obtain ⟨bad, hbd⟩ : ∃ bad, (rr7 l).2 = bad := ⟨_, rfl⟩
        rw [hbd] at hbad
        have HBd := Lib.hid hbd
        clear hbd
        rcases hres with ⟨hn, rfl⟩ | ⟨f, hf, Af, nf, cf, rfl, hOf⟩
        · have HN := Lib.hid hn
          clear hn
          cases bad
          · go_wp2_with fail
            refine (same_no none 0 0 A m c w8).mono ?_
            rintro e9 w9' ⟨rfl, rfl⟩
            have hok : rrOk l = false := by rw [HO.out, HN.out]; simp
            go_wp2_with (refine wpList_store_arr rfl 48 (.tmp 2) (.tmp 53) rfl X 48 _ [.int .i64 0, .int .i64 0, .int .i64 0, .slice none 0 0, .slice none 0 0, .slice none 0 0] H8.out.2.1 rfl rfl (by kernel_rfl) rfl rfl ?_; intro w9 hB9 hT9; have H9 := Lib.hid (And.intro hB9 hT9); clear hB9 hT9)
            have z0 := H9.out.1.cell 0
            have z1 := H9.out.1.cell 1
            have z2 := H9.out.1.cell 2
            have z3 := H9.out.1.cell 3
            have z4 := H9.out.1.cell 4
            have z5 := H9.out.1.cell 5
            simp only [List.getElem?_toArray, List.getElem?_cons_succ, List.getElem?_cons_zero] at z0 z1 z2 z3 z4 z5
            refine bodyPost_ret (v := .tuple #[.agg #[.int .i64 0, .int .i64 0, .int .i64 0, .slice none 0 0, .slice none 0 0, .slice none 0 0], .bool false]) (by simp [results, Try.results20, go_sem, z0, z1, z2, z3, z4, z5]) rfl ?_
            unfold RrRes
            rw [hok]
            refine ⟨by rw [← H.out.2.2]; exact below_turn H8.out.2.2.2.1 H9.out.2 (by simp) (by have := H8.out.2.2.2.1.size; rw [← H.out.2.2] at this; exact this), ?_⟩
            exact ⟨zRep, zSl, zSl, zSl, rfl, ⟨RdB.nil _ _, ⟨rfl, Nat.le_refl _, Nat.zero_le _, .inl rfl⟩, ⟨rfl, .inl rfl⟩, Nat.zero_le _⟩, by rw [if_neg (by decide)]⟩
          · have hok : rrOk l = false := by rw [HO.out, HBd.out]; rfl
            go_wp2_with (refine wpList_store_arr rfl 48 (.tmp 2) (.tmp 53) rfl X 48 _ [.int .i64 0, .int .i64 0, .int .i64 0, .slice none 0 0, .slice none 0 0, .slice none 0 0] H8.out.2.1 rfl rfl (by kernel_rfl) rfl rfl ?_; intro w9 hB9 hT9; have H9 := Lib.hid (And.intro hB9 hT9); clear hB9 hT9)
            have z0 := H9.out.1.cell 0
            have z1 := H9.out.1.cell 1
            have z2 := H9.out.1.cell 2
            have z3 := H9.out.1.cell 3
            have z4 := H9.out.1.cell 4
            have z5 := H9.out.1.cell 5
            simp only [List.getElem?_toArray, List.getElem?_cons_succ, List.getElem?_cons_zero] at z0 z1 z2 z3 z4 z5
            refine bodyPost_ret (v := .tuple #[.agg #[.int .i64 0, .int .i64 0, .int .i64 0, .slice none 0 0, .slice none 0 0, .slice none 0 0], .bool false]) (by simp [results, Try.results20, go_sem, z0, z1, z2, z3, z4, z5]) rfl ?_
            unfold RrRes
            rw [hok]
            refine ⟨by rw [← H.out.2.2]; exact below_turn H8.out.2.2.2.1 H9.out.2 (by simp) (by have := H8.out.2.2.2.1.size; rw [← H.out.2.2] at this; exact this), ?_⟩
            exact ⟨zRep, zSl, zSl, zSl, rfl, ⟨RdB.nil _ _, ⟨rfl, Nat.le_refl _, Nat.zero_le _, .inl rfl⟩, ⟨rfl, .inl rfl⟩, Nat.zero_le _⟩, by rw [if_neg (by decide)]⟩
        · have h4 : 4 ≤ nf := by
            rw [hOf.len]
            unfold frameO at hf
            cases hcc : replyO C with
            | none => rw [hcc] at hf; cases hf
            | some y =>
              rw [hcc, Option.bind_some] at hf
              split at hf
              · cases hf
              · injection hf with hf; rw [← hf, List.length_append, num_len _ _ (by omega)]; omega
          have HN := Lib.hid (And.intro hf (And.intro hOf h4))
          clear hf hOf h4
          cases bad
          · go_wp2_with fail
            refine (same_any Af nf cf A m c f l w8 HN.out.2.1.rd H8.out.2.2.2.2 HN.out.2.2).mono ?_
            rintro e9 w9' ⟨rfl, rfl⟩
            by_cases hfl : f.drop 4 = l
            · rw [decide_eq_true hfl]
              have hok : rrOk l = true := by rw [HO.out, HBd.out, HN.out.1]; simp [hfl]
              have q0 := H8.out.1.cell 0
              have q1 := H8.out.1.cell 1
              have q2 := H8.out.1.cell 2
              have q3 := H8.out.1.cell 3
              have q4 := H8.out.1.cell 4
              have q5 := H8.out.1.cell 5
              simp only [List.getElem?_toArray, List.getElem?_cons_succ, List.getElem?_cons_zero] at q0 q1 q2 q3 q4 q5
              go_wp2_with (refine wpList_store_arr rfl 48 (.tmp 2) (.tmp 54) rfl X 48 _ [.int .i64 C.rv, .int .i64 C.a, .int .i64 C.b, .slice A4 n4 c4, .slice Al nl cl, .slice A6 n6 c6] H8.out.2.1 rfl rfl (by kernel_rfl) rfl rfl ?_; intro w9 hB9 hT9; have H9 := Lib.hid (And.intro hB9 hT9); clear hB9 hT9)
              have z0 := H9.out.1.cell 0
              have z1 := H9.out.1.cell 1
              have z2 := H9.out.1.cell 2
              have z3 := H9.out.1.cell 3
              have z4 := H9.out.1.cell 4
              have z5 := H9.out.1.cell 5
              simp only [List.getElem?_toArray, List.getElem?_cons_succ, List.getElem?_cons_zero] at z0 z1 z2 z3 z4 z5
              refine bodyPost_ret (v := .tuple #[.agg #[.int .i64 C.rv, .int .i64 C.a, .int .i64 C.b, .slice A4 n4 c4, .slice Al nl cl, .slice A6 n6 c6], .bool true]) (by simp [results, Try.results20, go_sem, z0, z1, z2, z3, z4, z5]) rfl ?_
              unfold RrRes
              rw [hok]
              refine ⟨by rw [← H.out.2.2]; exact below_turn H8.out.2.2.2.1 H9.out.2 (by simp) (by have := H8.out.2.2.2.1.size; rw [← H.out.2.2] at this; exact this), ?_⟩
              exact ⟨C, ⟨A4, n4, c4⟩, ⟨Al, nl, cl⟩, ⟨A6, n6, c6⟩, rfl, HI9.out _ H9.out.2, by rw [if_pos rfl]; exact HC.out.1.symm⟩
            · rw [decide_eq_false hfl]
              have hok : rrOk l = false := by rw [HO.out, HBd.out, HN.out.1]; simp [hfl]
              go_wp2_with (refine wpList_store_arr rfl 48 (.tmp 2) (.tmp 53) rfl X 48 _ [.int .i64 0, .int .i64 0, .int .i64 0, .slice none 0 0, .slice none 0 0, .slice none 0 0] H8.out.2.1 rfl rfl (by kernel_rfl) rfl rfl ?_; intro w9 hB9 hT9; have H9 := Lib.hid (And.intro hB9 hT9); clear hB9 hT9)
              have z0 := H9.out.1.cell 0
              have z1 := H9.out.1.cell 1
              have z2 := H9.out.1.cell 2
              have z3 := H9.out.1.cell 3
              have z4 := H9.out.1.cell 4
              have z5 := H9.out.1.cell 5
              simp only [List.getElem?_toArray, List.getElem?_cons_succ, List.getElem?_cons_zero] at z0 z1 z2 z3 z4 z5
              refine bodyPost_ret (v := .tuple #[.agg #[.int .i64 0, .int .i64 0, .int .i64 0, .slice none 0 0, .slice none 0 0, .slice none 0 0], .bool false]) (by simp [results, Try.results20, go_sem, z0, z1, z2, z3, z4, z5]) rfl ?_
              unfold RrRes
              rw [hok]
              refine ⟨by rw [← H.out.2.2]; exact below_turn H8.out.2.2.2.1 H9.out.2 (by simp) (by have := H8.out.2.2.2.1.size; rw [← H.out.2.2] at this; exact this), ?_⟩
              exact ⟨zRep, zSl, zSl, zSl, rfl, ⟨RdB.nil _ _, ⟨rfl, Nat.le_refl _, Nat.zero_le _, .inl rfl⟩, ⟨rfl, .inl rfl⟩, Nat.zero_le _⟩, by rw [if_neg (by decide)]⟩
          · have hok : rrOk l = false := by rw [HO.out, HBd.out]; rfl
            go_wp2_with (refine wpList_store_arr rfl 48 (.tmp 2) (.tmp 53) rfl X 48 _ [.int .i64 0, .int .i64 0, .int .i64 0, .slice none 0 0, .slice none 0 0, .slice none 0 0] H8.out.2.1 rfl rfl (by kernel_rfl) rfl rfl ?_; intro w9 hB9 hT9; have H9 := Lib.hid (And.intro hB9 hT9); clear hB9 hT9)
            have z0 := H9.out.1.cell 0
            have z1 := H9.out.1.cell 1
            have z2 := H9.out.1.cell 2
            have z3 := H9.out.1.cell 3
            have z4 := H9.out.1.cell 4
            have z5 := H9.out.1.cell 5
            simp only [List.getElem?_toArray, List.getElem?_cons_succ, List.getElem?_cons_zero] at z0 z1 z2 z3 z4 z5
            refine bodyPost_ret (v := .tuple #[.agg #[.int .i64 0, .int .i64 0, .int .i64 0, .slice none 0 0, .slice none 0 0, .slice none 0 0], .bool false]) (by simp [results, Try.results20, go_sem, z0, z1, z2, z3, z4, z5]) rfl ?_
            unfold RrRes
            rw [hok]
            refine ⟨by rw [← H.out.2.2]; exact below_turn H8.out.2.2.2.1 H9.out.2 (by simp) (by have := H8.out.2.2.2.1.size; rw [← H.out.2.2] at this; exact this), ?_⟩
            exact ⟨zRep, zSl, zSl, zSl, rfl, ⟨RdB.nil _ _, ⟨rfl, Nat.le_refl _, Nat.zero_le _, .inl rfl⟩, ⟨rfl, .inl rfl⟩, Nat.zero_le _⟩, by rw [if_neg (by decide)]⟩
  · have hb : ¬ (1025 : Int) < n := by omega
    have hb2 : (n : Int) ≤ 1025 := by omega
    go_wp2_with fail
    go_loopw [24] (fun kk wr => ∃ k : Nat, k ≤ n ∧ kk = .int .i64 (k : Int) ∧ ∃ Al nl cl, Blk wr (X + 2) 48 #[.int .i64 C.rv, .int .i64 C.a, .int .i64 C.b, .slice A4 n4 c4, .slice Al nl cl, .slice none 0 0] ∧ OwnI wr (X + 3) (.slice Al nl cl) (giS s5 k).1 ∧ RrS wr (X + 1) X (giS s5 k).2 ∧ Blk wr X 48 #[.int .i64 0, .int .i64 0, .int .i64 0, .slice none 0 0, .slice none 0 0, .slice none 0 0] ∧ Below X w wr ∧ Own wr (X + 3) (.slice A4 n4 c4) C.data) (fun kk _ => n - (intOf kk).toNat)
    case atStart => exact ⟨0, by omega, rfl, none, 0, 0, HE.out.1.turn H5.out.2.1 (by simp), OwnI.nil _ _, H5.out.1, HE.out.2.2.2.1.turn H5.out.2.1 (by simp), below_turn HE.out.2.2.2.2.1 H5.out.2.1 (by simp) (by have := HE.out.2.2.2.2.2; omega), HE.out.2.2.1.turn H5.out.2.1 (fun g hg hm => by have := (HE.out.2.2.1.lt hg).1; simp at hm; omega)⟩
    case round =>
      obtain ⟨k, hk, rfl, Al, nl, cl, bC, hOI, hR, bR, hB, hO4⟩ := hrel
      by_cases hlt : k < n
      · have hlti : (k : Int) < (n : Int) := by omega
        have hltd : decide ((k : Int) < (n : Int)) = true := decide_eq_true hlti
        have hk0 : ¬ ((k : Int) < 0) := by omega
        have hcnt := giS_cnt s5 k
        have hgs : giS s5 (k + 1) = ((giS s5 k).1 ++ [gO (giS s5 k).2 4], gS (giS s5 k).2 4) := rfl
        obtain ⟨r, hr⟩ : ∃ r, giS s5 k = r := ⟨_, rfl⟩
        rw [hr] at hOI hR hcnt hgs
        obtain ⟨x, hx⟩ : ∃ x, gO r.2 4 = x := ⟨_, rfl⟩
        have HR := Lib.hid (And.intro bC (And.intro hOI (And.intro hR (And.intro bR (And.intro hB (And.intro hO4 (And.intro hcnt (And.intro hgs hx))))))))
        have hszC := bC.lt
        have HSz := Lib.hid hszC
        clear bC hOI hR bR hB hO4 hcnt hgs hx hr hszC
        go_wp2_with fail
        refine region_turn ((X + 1) :: (X + 2) :: (Value.slice Al nl cl).ownBlock.toList) (by kernel_rfl) (fun wd hOld hHeld hSz => ?_)
        have bCd : Blk wd (X + 2) 48 #[.int .i64 C.rv, .int .i64 C.a, .int .i64 C.b, .slice A4 n4 c4, .slice Al nl cl, .slice none 0 0] := HR.out.1.below hOld
        have hRd : RrS wd (X + 1) X r.2 := HR.out.2.2.1.old hOld
        have hOd : OwnI wd (X + 3) (.slice Al nl cl) r.1 := HR.out.2.1.below hOld
        have c0 := bCd.cell 4
        simp only [List.getElem?_toArray, List.getElem?_cons_succ, List.getElem?_cons_zero] at c0
        have HD := Lib.hid (And.intro bCd (And.intro hRd (And.intro hOd (And.intro hOld hSz))))
        clear bCd hRd hOd hOld hSz
        refine takeL (i := 0) (v := ?_) rfl (by kernel_rfl) (by kernel_rfl) (by kernel_rfl) (fun _ _ _ h => h) (Or.inl ⟨by rfl, ?_⟩) hHeld ?_
        rotate_left
        focus (intro wq hSw; clear hSw; go_simp; try with_reducible rfl)
        try simp only [Act.put, List.setIfInBounds_toArray, List.set_cons_zero, List.set_cons_succ]
        refine takeL (i := 2) (v := ?_) rfl (by kernel_rfl) (by kernel_rfl) (by kernel_rfl) (fun _ _ _ h => h) (Or.inl ⟨by rfl, ?_⟩) hHeld ?_
        rotate_left
        focus (intro wq hSw; clear hSw; go_simp; try with_reducible rfl)
        try simp only [Act.put, List.setIfInBounds_toArray, List.set_cons_zero, List.set_cons_succ]
        refine wpAnyH_ready (rs := [1, 3]) (by kernel_rfl) (by simp) ?_
        refine consL rfl (fun K hK => ?_) (consL rfl (fun K hK => ?_) AllReadyH.nil)
        · go_simp
          refine hK.out _ _ hHeld (fun hHeld => ?_)
          clear hK K c0
          try simp only [Act.put, List.setIfInBounds_toArray, List.set_cons_zero, List.set_cons_succ]
          refine wpAnyH_ready (rs := [3]) (by kernel_rfl) (by simp) ?_
          refine consL rfl (fun K hK => ?_) AllReadyH.nil
          go_simp
          refine (get_s (X + 1) X 4 r.2 wd HD.out.2.1 (by omega)).mono ?_
          rintro e8 w8 ⟨rfl, hR8, hT8, hs8⟩
          rw [HR.out.2.2.2.2.2.2.2.2]
          have hz := hHeld.trans hT8 (fun x hx => .inl (by simp at hx; rw [hx]; simp))
          have bC8 : Blk w8 (X + 2) 48 #[.int .i64 C.rv, .int .i64 C.a, .int .i64 C.b, .slice A4 n4 c4, .slice Al nl cl, .slice none 0 0] := HD.out.1.turn hT8 (by simp)
          have hO8 : OwnI w8 (X + 3) (.slice Al nl cl) r.1 := HD.out.2.2.1.turn hT8 (fun g hg hm => by have := (HD.out.2.2.1.lt hg).1; simp at hm; omega)
          have H8 := Lib.hid (And.intro hR8 (And.intro hT8 (And.intro hs8 (And.intro bC8 hO8))))
          refine hK.out _ _ hz (fun hHeld => ?_)
          clear hK K hR8 hT8 hs8 bC8 hO8 hz
          try simp only [Act.put, List.setIfInBounds_toArray, List.set_cons_zero, List.set_cons_succ]
          refine wpAnyH_ready (rs := [4]) (by kernel_rfl) (by simp) ?_
          refine consL rfl (fun K hK => ?_) AllReadyH.nil
          go_simp
          have hz := hHeld.alloc (.cells #[.int .i64 x] 3)
          refine hK.out _ _ hz (fun hHeld => ?_)
          clear hK K hz
          try simp only [Act.put, List.setIfInBounds_toArray, List.set_cons_zero, List.set_cons_succ]
          have hal : Below w8.heap.size w8 (w8.alloc (.cells #[.int .i64 x] 3)) := (Below.refl _ _).alloc (Nat.le_refl _) _
          refine wpAnyH_ready (rs := [5]) (by kernel_rfl) (by simp) ?_
          refine consL rfl (fun K hK => ?_) AllReadyH.nil
          refine step_appI (.tmp 27) (.tmp 30) (X + 3) (.slice Al nl cl) r.1 (H8.out.2.2.2.2.below hal) (by simp; have := H8.out.2.2.1; have := HD.out.2.2.2.1.size; have := HSz.out; omega) w8.heap.size x (Blk.new _ _ _) (by have := HR.out.2.2.2.2.2.2.1; omega) rfl rfl rfl rfl ?_
          intro A9 n9 c9 w9 hG
          have hz := hHeld.grown hG.grown (fun k hk => .inl (by rw [hk]; simp))
          have bC9 : Blk w9 (X + 2) 48 #[.int .i64 C.rv, .int .i64 C.a, .int .i64 C.b, .slice A4 n4 c4, .slice Al nl cl, .slice none 0 0] := (H8.out.2.2.2.1.below hal).keep (hG.below.block _ (by omega))
          have c9 := bC9.cell 4
          simp only [List.getElem?_toArray, List.getElem?_cons_succ, List.getElem?_cons_zero] at c9
          have f9 := bC9.frozen 4
          have H9 := Lib.hid (And.intro hG (And.intro bC9 hal))
          refine hK.out _ _ hz (fun hHeld => ?_)
          clear hK K hz hG bC9 hal
          try simp only [Act.put, List.setIfInBounds_toArray, List.set_cons_zero, List.set_cons_succ]
          refine takeL (i := 6) (v := ?_) rfl (by kernel_rfl) (by kernel_rfl) (by kernel_rfl) (fun _ _ _ h => h) (Or.inl ⟨by rfl, ?_⟩) hHeld ?_
          rotate_left
          focus (intro wq hSw; clear hSw; go_simp; try with_reducible rfl)
          try simp only [Act.put, List.setIfInBounds_toArray, List.set_cons_zero, List.set_cons_succ]
          refine wpAnyH_ready (rs := [7]) (by kernel_rfl) (by simp) ?_
          refine consL rfl (fun K hK => ?_) AllReadyH.nil
          go_simp
          refine hK.out _ _ (hHeld.setCell (.inl (by simp)) _) (fun hHeld => ?_)
          clear hK K c9 f9
          try simp only [Act.put, List.setIfInBounds_toArray, List.set_cons_zero, List.set_cons_succ]
          refine wpAnyH_done (by kernel_rfl) ?_ _
          refine NoPanic.normal ?_
          have HH := Lib.hid hHeld
          clear hHeld
          go_wp2_with fail
          go_roundw
          case measure => simp [intOf]; omega
          have hTf : Turn [X + 2] w9 (w9.setCell ⟨X + 2, 4, none⟩ (.slice A9 n9 c9)) := (Turn.refl _ _).setCell (.inl (by simp)) _
          have hin : ∀ g, (Value.slice Al nl cl).ownBlock = some g → X + 3 ≤ g := fun g hg => (HR.out.2.1.lt hg).1
          refine ⟨k + 1, by omega, by simp, A9, n9, c9, ?_, ?_, ?_, HR.out.2.2.2.1.turn HH.out (fun hm => ?_), below_turn HR.out.2.2.2.2.1 HH.out (fun t ht => ?_) (by have := HSz.out; omega), HR.out.2.2.2.2.2.1.turn HH.out (fun g hg hm => ?_)⟩
          · have := H9.out.2.1.set_ 4 (.slice A9 n9 c9)
            simpa using this
          · rw [HR.out.2.2.2.2.2.2.2.1, HR.out.2.2.2.2.2.2.2.2]
            exact H9.out.1.own.turn hTf (fun g hg hm => by have := (H9.out.1.own.lt hg).1; simp at hm; omega)
          · rw [HR.out.2.2.2.2.2.2.2.1]
            have h1 := (Rr.old H8.out.1 H9.out.2.2).oldB H9.out.1.below (by omega)
            obtain ⟨A', m', c', z1, z2, z3, z4⟩ := h1
            exact ⟨A', m', c', z1.turn hTf (by simp), z2.turn hTf (fun ad had hm => by have := z3 ad had; simp at hm; omega), z3, z4⟩
          · simp at hm
            have := hin _ hm
            omega
          · rcases List.mem_cons.1 ht with e | e
            · omega
            · rcases List.mem_cons.1 e with e | e
              · omega
              · have := hin t (by simpa using e); omega
          · have h3 := (HR.out.2.2.2.2.2.1.lt hg).1
            rcases List.mem_cons.1 hm with e | e
            · omega
            · rcases List.mem_cons.1 e with e | e
              · omega
              · obtain ⟨cs, hcs⟩ := HR.out.2.1.blk (show _ = some g by simpa using e)
                exact HR.out.2.2.2.2.2.1.ne hcs (by decide) hg
        · go_simp
          refine (get_s (X + 1) X 4 r.2 wd HD.out.2.1 (by omega)).mono ?_
          rintro e8 w8 ⟨rfl, hR8, hT8, hs8⟩
          rw [HR.out.2.2.2.2.2.2.2.2]
          have hz := hHeld.trans hT8 (fun x hx => .inl (by simp at hx; rw [hx]; simp))
          have bC8 : Blk w8 (X + 2) 48 #[.int .i64 C.rv, .int .i64 C.a, .int .i64 C.b, .slice A4 n4 c4, .slice Al nl cl, .slice none 0 0] := HD.out.1.turn hT8 (by simp)
          have hO8 : OwnI w8 (X + 3) (.slice Al nl cl) r.1 := HD.out.2.2.1.turn hT8 (fun g hg hm => by have := (HD.out.2.2.1.lt hg).1; simp at hm; omega)
          have H8 := Lib.hid (And.intro hR8 (And.intro hT8 (And.intro hs8 (And.intro bC8 hO8))))
          refine hK.out _ _ hz (fun hHeld => ?_)
          clear hK K hR8 hT8 hs8 bC8 hO8 hz
          try simp only [Act.put, List.setIfInBounds_toArray, List.set_cons_zero, List.set_cons_succ]
          have c0 := H8.out.2.2.2.1.cell 4
          simp only [List.getElem?_toArray, List.getElem?_cons_succ, List.getElem?_cons_zero] at c0
          refine wpAnyH_ready (rs := [1, 4]) (by kernel_rfl) (by simp) ?_
          refine consL rfl (fun K hK => ?_) (consL rfl (fun K hK => ?_) AllReadyH.nil)
          · go_simp
            refine hK.out _ _ hHeld (fun hHeld => ?_)
            clear hK K c0
            try simp only [Act.put, List.setIfInBounds_toArray, List.set_cons_zero, List.set_cons_succ]
            refine wpAnyH_ready (rs := [4]) (by kernel_rfl) (by simp) ?_
            refine consL rfl (fun K hK => ?_) AllReadyH.nil
            go_simp
            have hz := hHeld.alloc (.cells #[.int .i64 x] 3)
            refine hK.out _ _ hz (fun hHeld => ?_)
            clear hK K hz
            try simp only [Act.put, List.setIfInBounds_toArray, List.set_cons_zero, List.set_cons_succ]
            have hal : Below w8.heap.size w8 (w8.alloc (.cells #[.int .i64 x] 3)) := (Below.refl _ _).alloc (Nat.le_refl _) _
            refine wpAnyH_ready (rs := [5]) (by kernel_rfl) (by simp) ?_
            refine consL rfl (fun K hK => ?_) AllReadyH.nil
            refine step_appI (.tmp 27) (.tmp 30) (X + 3) (.slice Al nl cl) r.1 (H8.out.2.2.2.2.below hal) (by simp; have := H8.out.2.2.1; have := HD.out.2.2.2.1.size; have := HSz.out; omega) w8.heap.size x (Blk.new _ _ _) (by have := HR.out.2.2.2.2.2.2.1; omega) rfl rfl rfl rfl ?_
            intro A9 n9 c9 w9 hG
            have hz := hHeld.grown hG.grown (fun k hk => .inl (by rw [hk]; simp))
            have bC9 : Blk w9 (X + 2) 48 #[.int .i64 C.rv, .int .i64 C.a, .int .i64 C.b, .slice A4 n4 c4, .slice Al nl cl, .slice none 0 0] := (H8.out.2.2.2.1.below hal).keep (hG.below.block _ (by omega))
            have c9 := bC9.cell 4
            simp only [List.getElem?_toArray, List.getElem?_cons_succ, List.getElem?_cons_zero] at c9
            have f9 := bC9.frozen 4
            have H9 := Lib.hid (And.intro hG (And.intro bC9 hal))
            refine hK.out _ _ hz (fun hHeld => ?_)
            clear hK K hz hG bC9 hal
            try simp only [Act.put, List.setIfInBounds_toArray, List.set_cons_zero, List.set_cons_succ]
            refine takeL (i := 6) (v := ?_) rfl (by kernel_rfl) (by kernel_rfl) (by kernel_rfl) (fun _ _ _ h => h) (Or.inl ⟨by rfl, ?_⟩) hHeld ?_
            rotate_left
            focus (intro wq hSw; clear hSw; go_simp; try with_reducible rfl)
            try simp only [Act.put, List.setIfInBounds_toArray, List.set_cons_zero, List.set_cons_succ]
            refine wpAnyH_ready (rs := [7]) (by kernel_rfl) (by simp) ?_
            refine consL rfl (fun K hK => ?_) AllReadyH.nil
            go_simp
            refine hK.out _ _ (hHeld.setCell (.inl (by simp)) _) (fun hHeld => ?_)
            clear hK K c9 f9
            try simp only [Act.put, List.setIfInBounds_toArray, List.set_cons_zero, List.set_cons_succ]
            refine wpAnyH_done (by kernel_rfl) ?_ _
            refine NoPanic.normal ?_
            have HH := Lib.hid hHeld
            clear hHeld
            go_wp2_with fail
            go_roundw
            case measure => simp [intOf]; omega
            have hTf : Turn [X + 2] w9 (w9.setCell ⟨X + 2, 4, none⟩ (.slice A9 n9 c9)) := (Turn.refl _ _).setCell (.inl (by simp)) _
            have hin : ∀ g, (Value.slice Al nl cl).ownBlock = some g → X + 3 ≤ g := fun g hg => (HR.out.2.1.lt hg).1
            refine ⟨k + 1, by omega, by simp, A9, n9, c9, ?_, ?_, ?_, HR.out.2.2.2.1.turn HH.out (fun hm => ?_), below_turn HR.out.2.2.2.2.1 HH.out (fun t ht => ?_) (by have := HSz.out; omega), HR.out.2.2.2.2.2.1.turn HH.out (fun g hg hm => ?_)⟩
            · have := H9.out.2.1.set_ 4 (.slice A9 n9 c9)
              simpa using this
            · rw [HR.out.2.2.2.2.2.2.2.1, HR.out.2.2.2.2.2.2.2.2]
              exact H9.out.1.own.turn hTf (fun g hg hm => by have := (H9.out.1.own.lt hg).1; simp at hm; omega)
            · rw [HR.out.2.2.2.2.2.2.2.1]
              have h1 := (Rr.old H8.out.1 H9.out.2.2).oldB H9.out.1.below (by omega)
              obtain ⟨A', m', c', z1, z2, z3, z4⟩ := h1
              exact ⟨A', m', c', z1.turn hTf (by simp), z2.turn hTf (fun ad had hm => by have := z3 ad had; simp at hm; omega), z3, z4⟩
            · simp at hm
              have := hin _ hm
              omega
            · rcases List.mem_cons.1 ht with e | e
              · omega
              · rcases List.mem_cons.1 e with e | e
                · omega
                · have := hin t (by simpa using e); omega
            · have h3 := (HR.out.2.2.2.2.2.1.lt hg).1
              rcases List.mem_cons.1 hm with e | e
              · omega
              · rcases List.mem_cons.1 e with e | e
                · omega
                · obtain ⟨cs, hcs⟩ := HR.out.2.1.blk (show _ = some g by simpa using e)
                  exact HR.out.2.2.2.2.2.1.ne hcs (by decide) hg
          · go_simp
            have hz := hHeld.alloc (.cells #[.int .i64 x] 3)
            refine hK.out _ _ hz (fun hHeld => ?_)
            clear hK K hz
            try simp only [Act.put, List.setIfInBounds_toArray, List.set_cons_zero, List.set_cons_succ]
            have hal : Below w8.heap.size w8 (w8.alloc (.cells #[.int .i64 x] 3)) := (Below.refl _ _).alloc (Nat.le_refl _) _
            have c0 := (H8.out.2.2.2.1.below hal).cell 4
            simp only [List.getElem?_toArray, List.getElem?_cons_succ, List.getElem?_cons_zero] at c0
            refine wpAnyH_ready (rs := [1]) (by kernel_rfl) (by simp) ?_
            refine consL rfl (fun K hK => ?_) AllReadyH.nil
            go_simp
            refine hK.out _ _ hHeld (fun hHeld => ?_)
            clear hK K c0
            try simp only [Act.put, List.setIfInBounds_toArray, List.set_cons_zero, List.set_cons_succ]
            refine wpAnyH_ready (rs := [5]) (by kernel_rfl) (by simp) ?_
            refine consL rfl (fun K hK => ?_) AllReadyH.nil
            refine step_appI (.tmp 27) (.tmp 30) (X + 3) (.slice Al nl cl) r.1 (H8.out.2.2.2.2.below hal) (by simp; have := H8.out.2.2.1; have := HD.out.2.2.2.1.size; have := HSz.out; omega) w8.heap.size x (Blk.new _ _ _) (by have := HR.out.2.2.2.2.2.2.1; omega) rfl rfl rfl rfl ?_
            intro A9 n9 c9 w9 hG
            have hz := hHeld.grown hG.grown (fun k hk => .inl (by rw [hk]; simp))
            have bC9 : Blk w9 (X + 2) 48 #[.int .i64 C.rv, .int .i64 C.a, .int .i64 C.b, .slice A4 n4 c4, .slice Al nl cl, .slice none 0 0] := (H8.out.2.2.2.1.below hal).keep (hG.below.block _ (by omega))
            have c9 := bC9.cell 4
            simp only [List.getElem?_toArray, List.getElem?_cons_succ, List.getElem?_cons_zero] at c9
            have f9 := bC9.frozen 4
            have H9 := Lib.hid (And.intro hG (And.intro bC9 hal))
            refine hK.out _ _ hz (fun hHeld => ?_)
            clear hK K hz hG bC9 hal
            try simp only [Act.put, List.setIfInBounds_toArray, List.set_cons_zero, List.set_cons_succ]
            refine takeL (i := 6) (v := ?_) rfl (by kernel_rfl) (by kernel_rfl) (by kernel_rfl) (fun _ _ _ h => h) (Or.inl ⟨by rfl, ?_⟩) hHeld ?_
            rotate_left
            focus (intro wq hSw; clear hSw; go_simp; try with_reducible rfl)
            try simp only [Act.put, List.setIfInBounds_toArray, List.set_cons_zero, List.set_cons_succ]
            refine wpAnyH_ready (rs := [7]) (by kernel_rfl) (by simp) ?_
            refine consL rfl (fun K hK => ?_) AllReadyH.nil
            go_simp
            refine hK.out _ _ (hHeld.setCell (.inl (by simp)) _) (fun hHeld => ?_)
            clear hK K c9 f9
            try simp only [Act.put, List.setIfInBounds_toArray, List.set_cons_zero, List.set_cons_succ]
            refine wpAnyH_done (by kernel_rfl) ?_ _
            refine NoPanic.normal ?_
            have HH := Lib.hid hHeld
            clear hHeld
            go_wp2_with fail
            go_roundw
            case measure => simp [intOf]; omega
            have hTf : Turn [X + 2] w9 (w9.setCell ⟨X + 2, 4, none⟩ (.slice A9 n9 c9)) := (Turn.refl _ _).setCell (.inl (by simp)) _
            have hin : ∀ g, (Value.slice Al nl cl).ownBlock = some g → X + 3 ≤ g := fun g hg => (HR.out.2.1.lt hg).1
            refine ⟨k + 1, by omega, by simp, A9, n9, c9, ?_, ?_, ?_, HR.out.2.2.2.1.turn HH.out (fun hm => ?_), below_turn HR.out.2.2.2.2.1 HH.out (fun t ht => ?_) (by have := HSz.out; omega), HR.out.2.2.2.2.2.1.turn HH.out (fun g hg hm => ?_)⟩
            · have := H9.out.2.1.set_ 4 (.slice A9 n9 c9)
              simpa using this
            · rw [HR.out.2.2.2.2.2.2.2.1, HR.out.2.2.2.2.2.2.2.2]
              exact H9.out.1.own.turn hTf (fun g hg hm => by have := (H9.out.1.own.lt hg).1; simp at hm; omega)
            · rw [HR.out.2.2.2.2.2.2.2.1]
              have h1 := (Rr.old H8.out.1 H9.out.2.2).oldB H9.out.1.below (by omega)
              obtain ⟨A', m', c', z1, z2, z3, z4⟩ := h1
              exact ⟨A', m', c', z1.turn hTf (by simp), z2.turn hTf (fun ad had hm => by have := z3 ad had; simp at hm; omega), z3, z4⟩
            · simp at hm
              have := hin _ hm
              omega
            · rcases List.mem_cons.1 ht with e | e
              · omega
              · rcases List.mem_cons.1 e with e | e
                · omega
                · have := hin t (by simpa using e); omega
            · have h3 := (HR.out.2.2.2.2.2.1.lt hg).1
              rcases List.mem_cons.1 hm with e | e
              · omega
              · rcases List.mem_cons.1 e with e | e
                · omega
                · obtain ⟨cs, hcs⟩ := HR.out.2.1.blk (show _ = some g by simpa using e)
                  exact HR.out.2.2.2.2.2.1.ne hcs (by decide) hg
      · obtain rfl : k = n := by omega
        have hlti : ¬ (k : Int) < (k : Int) := by omega
        have hMe : rrM l = k := by rw [H5.out.2.2.2.1]; omega
        have hli : C.list = (giS s5 k).1 := by have := HC.out.2.2.2.2.2.1; rw [H5.out.2.2.2.2, hMe] at this; exact this.symm
        have hr6 : rr6 l = (giS s5 k).2 := by unfold rr6; rw [H5.out.2.2.2.2, hMe]
        rw [← hli] at hOI
        rw [← hr6] at hR
        have HR := Lib.hid (And.intro bC (And.intro hOI (And.intro hR (And.intro bR (And.intro hB hO4)))))
        clear bC hOI hR bR hB hO4 hli hr6 hMe
        go_wp2_with fail
        refine (rattrs_s (X + 1) X (rr6 l) wr HR.out.2.2.1 HL.out.2).mono ?_
        rintro e6 w6 ⟨A6, n6, c6, rfl, hO6, hR6, hT6⟩
        rw [HC.out.2.2.2.2.2.2] at hO6
        have bC6 := HR.out.1.turn hT6 (by simp)
        have q0 := bC6.cell 0
        have q1 := bC6.cell 1
        have q2 := bC6.cell 2
        have q3 := bC6.cell 3
        have q4 := bC6.cell 4
        have q5 := bC6.cell 5
        simp only [List.getElem?_toArray, List.getElem?_cons_succ, List.getElem?_cons_zero] at q0 q1 q2 q3 q4 q5
        have f5 := bC6.frozen 5
        have hz6 := hT6.size
        have hR7 : RrS w6 (X + 1) X (rr7 l) := by unfold rr7; exact hR6
        have hXr := HR.out.1.lt
        have H6 := Lib.hid (And.intro hO6 (And.intro hR7 (And.intro hT6 (And.intro hz6 (And.intro bC6 hXr)))))
        clear hO6 hR6 hR7 hT6 hz6 bC6 hXr
        go_wp2_with fail
        obtain ⟨wF, hwF⟩ : ∃ wF, w6.setCell ⟨X + 2, 5, none⟩ (.slice A6 n6 c6) = wF := ⟨_, rfl⟩
        have hTF : Turn [X + 2] w6 wF := by rw [← hwF]; exact (Turn.refl _ _).setCell (.inl (by simp)) _
        have bCF : Blk wF (X + 2) 48 #[.int .i64 C.rv, .int .i64 C.a, .int .i64 C.b, .slice A4 n4 c4, .slice Al nl cl, .slice A6 n6 c6] := by
          rw [← hwF]
          have := H6.out.2.2.2.2.1.set_ 5 (.slice A6 n6 c6)
          simpa using this
        have hRF : RrS wF (X + 1) X (rr7 l) := by
          obtain ⟨A', m', c', z1, z2, z3, z4⟩ := H6.out.2.1
          exact ⟨A', m', c', z1.turn hTF (by simp), z2.turn hTF (fun ad had hm => by have := z3 ad had; simp at hm; omega), z3, z4⟩
        have h6s := H6.out.2.2.2.1
        have hXr := H6.out.2.2.2.2.2
        have hO4F : Own wF (X + 3) (.slice A4 n4 c4) C.data := (HR.out.2.2.2.2.2.turn H6.out.2.2.1 (fun g hg hm => by have := (HR.out.2.2.2.2.2.lt hg).1; simp at hm; omega)).turn hTF (fun g hg hm => by have := (HR.out.2.2.2.2.2.lt hg).1; simp at hm; omega)
        have hOIF : OwnI wF (X + 3) (.slice Al nl cl) C.list := (HR.out.2.1.turn H6.out.2.2.1 (fun g hg hm => by have := (HR.out.2.1.lt hg).1; simp at hm; omega)).turn hTF (fun g hg hm => by have := (HR.out.2.1.lt hg).1; simp at hm; omega)
        have hO6F : OwnAts wF (X + 3) ⟨A6, n6, c6⟩ C.attrs := (H6.out.1.mono (by omega)).turn hTF (by simp)
        have hI : RepIs wF wF.heap.size C ⟨A4, n4, c4⟩ ⟨Al, nl, cl⟩ ⟨A6, n6, c6⟩ := ⟨RdB.ofRd hO4F.rd, OwnI.at_ (s := ⟨Al, nl, cl⟩) hOIF, hO6F.at_, hO6F.max⟩
        have bRF : Blk wF X 48 #[.int .i64 0, .int .i64 0, .int .i64 0, .slice none 0 0, .slice none 0 0, .slice none 0 0] := (HR.out.2.2.2.1.turn H6.out.2.2.1 (by simp)).turn hTF (by simp)
        have hsF : X + 3 ≤ wF.heap.size := by have := hTF.size; omega
        have hBF : Below X w wF := below_turn (below_turn HR.out.2.2.2.2.1 H6.out.2.2.1 (by simp) (by omega)) hTF (by simp) (by omega)
        rw [hwF]
        have HOw := Lib.hid (And.intro hO4F (And.intro hOIF hO6F))
        have HF := Lib.hid (And.intro bCF (And.intro hRF (And.intro hI (And.intro bRF (And.intro hBF hsF)))))
        clear hwF hTF bCF hRF h6s hXr hO4F hOIF hO6F hI bRF hsF hBF f5 q0 q1 q2 q3 q4 q5
        refine (reply_o C ⟨A4, n4, c4⟩ ⟨Al, nl, cl⟩ ⟨A6, n6, c6⟩ wF HF.out.2.2.1).mono ?_
        rintro e8 w8 ⟨hb8, hres⟩
        obtain ⟨rA, rm, rc, hrB, hrR, hrA, hrp⟩ := HF.out.2.1
        have hbad := (hrB.below hb8).cell 1
        simp only [List.getElem?_toArray, List.getElem?_cons_succ, List.getElem?_cons_zero] at hbad
        have bC8 : Blk w8 (X + 2) 48 #[.int .i64 C.rv, .int .i64 C.a, .int .i64 C.b, .slice A4 n4 c4, .slice Al nl cl, .slice A6 n6 c6] := HF.out.1.below hb8
        have bR8 : Blk w8 X 48 #[.int .i64 0, .int .i64 0, .int .i64 0, .slice none 0 0, .slice none 0 0, .slice none 0 0] := HF.out.2.2.2.1.below hb8
        have hI8 : RepIs w8 w8.heap.size C ⟨A4, n4, c4⟩ ⟨Al, nl, cl⟩ ⟨A6, n6, c6⟩ := (HF.out.2.2.1.old hb8).mono hb8.size
        have hB8 : Below X w w8 := HF.out.2.2.2.2.1.trans (hb8.mono (by have := HF.out.2.2.2.2.2; omega))
        have hl8 : Rd w8 A m c l := H.out.1.below (by rw [← H.out.2.2]; exact hB8)
        have hok0 : rrOk l = (!(rr7 l).2 && match frameO (replyO C) with | none => false | some f => decide (f.drop 4 = l)) := by unfold rrOk; rw [HC.out.1]; rfl
        have hI9 : ∀ w9, Turn [X] w8 w9 → RepIs w9 w9.heap.size C ⟨A4, n4, c4⟩ ⟨Al, nl, cl⟩ ⟨A6, n6, c6⟩ := fun w9 hT9 => by
          have g4 : Own w9 (X + 3) (.slice A4 n4 c4) C.data := (HOw.out.1.below hb8).turn hT9 (fun g hg hm => by have := (HOw.out.1.lt hg).1; simp at hm; omega)
          have gI : OwnI w9 (X + 3) (.slice Al nl cl) C.list := (HOw.out.2.1.below hb8).turn hT9 (fun g hg hm => by have := (HOw.out.2.1.lt hg).1; simp at hm; omega)
          have g6 : OwnAts w9 (X + 3) ⟨A6, n6, c6⟩ C.attrs := (HOw.out.2.2.below hb8).turn hT9 (by simp)
          exact ⟨RdB.ofRd g4.rd, OwnI.at_ (s := ⟨Al, nl, cl⟩) gI, g6.at_, g6.max⟩
        have HI9 := Lib.hid hI9
        clear hI9
        have H8 := Lib.hid (And.intro bC8 (And.intro bR8 (And.intro hI8 (And.intro hB8 hl8))))
        have HO := Lib.hid hok0
        clear hb8 bC8 bR8 hI8 hB8 hl8 hok0 hrB hrR hrA hrp
        obtain ⟨bad, hbd⟩ : ∃ bad, (rr7 l).2 = bad := ⟨_, rfl⟩
        rw [hbd] at hbad
        have HBd := Lib.hid hbd
        clear hbd
        rcases hres with ⟨hn, rfl⟩ | ⟨f, hf, Af, nf, cf, rfl, hOf⟩
        · have HN := Lib.hid hn
          clear hn
          cases bad
          · go_wp2_with fail
            refine (same_no none 0 0 A m c w8).mono ?_
            rintro e9 w9' ⟨rfl, rfl⟩
            have hok : rrOk l = false := by rw [HO.out, HN.out]; simp
            go_wp2_with (refine wpList_store_arr rfl 48 (.tmp 2) (.tmp 53) rfl X 48 _ [.int .i64 0, .int .i64 0, .int .i64 0, .slice none 0 0, .slice none 0 0, .slice none 0 0] H8.out.2.1 rfl rfl (by kernel_rfl) rfl rfl ?_; intro w9 hB9 hT9; have H9 := Lib.hid (And.intro hB9 hT9); clear hB9 hT9)
            have z0 := H9.out.1.cell 0
            have z1 := H9.out.1.cell 1
            have z2 := H9.out.1.cell 2
            have z3 := H9.out.1.cell 3
            have z4 := H9.out.1.cell 4
            have z5 := H9.out.1.cell 5
            simp only [List.getElem?_toArray, List.getElem?_cons_succ, List.getElem?_cons_zero] at z0 z1 z2 z3 z4 z5
            refine bodyPost_ret (v := .tuple #[.agg #[.int .i64 0, .int .i64 0, .int .i64 0, .slice none 0 0, .slice none 0 0, .slice none 0 0], .bool false]) (by simp [results, Try.results20, go_sem, z0, z1, z2, z3, z4, z5]) rfl ?_
            unfold RrRes
            rw [hok]
            refine ⟨by rw [← H.out.2.2]; exact below_turn H8.out.2.2.2.1 H9.out.2 (by simp) (by have := H8.out.2.2.2.1.size; rw [← H.out.2.2] at this; exact this), ?_⟩
            exact ⟨zRep, zSl, zSl, zSl, rfl, ⟨RdB.nil _ _, ⟨rfl, Nat.le_refl _, Nat.zero_le _, .inl rfl⟩, ⟨rfl, .inl rfl⟩, Nat.zero_le _⟩, by rw [if_neg (by decide)]⟩
          · have hok : rrOk l = false := by rw [HO.out, HBd.out]; rfl
            go_wp2_with (refine wpList_store_arr rfl 48 (.tmp 2) (.tmp 53) rfl X 48 _ [.int .i64 0, .int .i64 0, .int .i64 0, .slice none 0 0, .slice none 0 0, .slice none 0 0] H8.out.2.1 rfl rfl (by kernel_rfl) rfl rfl ?_; intro w9 hB9 hT9; have H9 := Lib.hid (And.intro hB9 hT9); clear hB9 hT9)
            have z0 := H9.out.1.cell 0
            have z1 := H9.out.1.cell 1
            have z2 := H9.out.1.cell 2
            have z3 := H9.out.1.cell 3
            have z4 := H9.out.1.cell 4
            have z5 := H9.out.1.cell 5
            simp only [List.getElem?_toArray, List.getElem?_cons_succ, List.getElem?_cons_zero] at z0 z1 z2 z3 z4 z5
            refine bodyPost_ret (v := .tuple #[.agg #[.int .i64 0, .int .i64 0, .int .i64 0, .slice none 0 0, .slice none 0 0, .slice none 0 0], .bool false]) (by simp [results, Try.results20, go_sem, z0, z1, z2, z3, z4, z5]) rfl ?_
            unfold RrRes
            rw [hok]
            refine ⟨by rw [← H.out.2.2]; exact below_turn H8.out.2.2.2.1 H9.out.2 (by simp) (by have := H8.out.2.2.2.1.size; rw [← H.out.2.2] at this; exact this), ?_⟩
            exact ⟨zRep, zSl, zSl, zSl, rfl, ⟨RdB.nil _ _, ⟨rfl, Nat.le_refl _, Nat.zero_le _, .inl rfl⟩, ⟨rfl, .inl rfl⟩, Nat.zero_le _⟩, by rw [if_neg (by decide)]⟩
        · have h4 : 4 ≤ nf := by
            rw [hOf.len]
            unfold frameO at hf
            cases hcc : replyO C with
            | none => rw [hcc] at hf; cases hf
            | some y =>
              rw [hcc, Option.bind_some] at hf
              split at hf
              · cases hf
              · injection hf with hf; rw [← hf, List.length_append, num_len _ _ (by omega)]; omega
          have HN := Lib.hid (And.intro hf (And.intro hOf h4))
          clear hf hOf h4
          cases bad
          · go_wp2_with fail
            refine (same_any Af nf cf A m c f l w8 HN.out.2.1.rd H8.out.2.2.2.2 HN.out.2.2).mono ?_
            rintro e9 w9' ⟨rfl, rfl⟩
            by_cases hfl : f.drop 4 = l
            · rw [decide_eq_true hfl]
              have hok : rrOk l = true := by rw [HO.out, HBd.out, HN.out.1]; simp [hfl]
              have q0 := H8.out.1.cell 0
              have q1 := H8.out.1.cell 1
              have q2 := H8.out.1.cell 2
              have q3 := H8.out.1.cell 3
              have q4 := H8.out.1.cell 4
              have q5 := H8.out.1.cell 5
              simp only [List.getElem?_toArray, List.getElem?_cons_succ, List.getElem?_cons_zero] at q0 q1 q2 q3 q4 q5
              go_wp2_with (refine wpList_store_arr rfl 48 (.tmp 2) (.tmp 54) rfl X 48 _ [.int .i64 C.rv, .int .i64 C.a, .int .i64 C.b, .slice A4 n4 c4, .slice Al nl cl, .slice A6 n6 c6] H8.out.2.1 rfl rfl (by kernel_rfl) rfl rfl ?_; intro w9 hB9 hT9; have H9 := Lib.hid (And.intro hB9 hT9); clear hB9 hT9)
              have z0 := H9.out.1.cell 0
              have z1 := H9.out.1.cell 1
              have z2 := H9.out.1.cell 2
              have z3 := H9.out.1.cell 3
              have z4 := H9.out.1.cell 4
              have z5 := H9.out.1.cell 5
              simp only [List.getElem?_toArray, List.getElem?_cons_succ, List.getElem?_cons_zero] at z0 z1 z2 z3 z4 z5
              refine bodyPost_ret (v := .tuple #[.agg #[.int .i64 C.rv, .int .i64 C.a, .int .i64 C.b, .slice A4 n4 c4, .slice Al nl cl, .slice A6 n6 c6], .bool true]) (by simp [results, Try.results20, go_sem, z0, z1, z2, z3, z4, z5]) rfl ?_
              unfold RrRes
              rw [hok]
              refine ⟨by rw [← H.out.2.2]; exact below_turn H8.out.2.2.2.1 H9.out.2 (by simp) (by have := H8.out.2.2.2.1.size; rw [← H.out.2.2] at this; exact this), ?_⟩
              exact ⟨C, ⟨A4, n4, c4⟩, ⟨Al, nl, cl⟩, ⟨A6, n6, c6⟩, rfl, HI9.out _ H9.out.2, by rw [if_pos rfl]; exact HC.out.1.symm⟩
            · rw [decide_eq_false hfl]
              have hok : rrOk l = false := by rw [HO.out, HBd.out, HN.out.1]; simp [hfl]
              go_wp2_with (refine wpList_store_arr rfl 48 (.tmp 2) (.tmp 53) rfl X 48 _ [.int .i64 0, .int .i64 0, .int .i64 0, .slice none 0 0, .slice none 0 0, .slice none 0 0] H8.out.2.1 rfl rfl (by kernel_rfl) rfl rfl ?_; intro w9 hB9 hT9; have H9 := Lib.hid (And.intro hB9 hT9); clear hB9 hT9)
              have z0 := H9.out.1.cell 0
              have z1 := H9.out.1.cell 1
              have z2 := H9.out.1.cell 2
              have z3 := H9.out.1.cell 3
              have z4 := H9.out.1.cell 4
              have z5 := H9.out.1.cell 5
              simp only [List.getElem?_toArray, List.getElem?_cons_succ, List.getElem?_cons_zero] at z0 z1 z2 z3 z4 z5
              refine bodyPost_ret (v := .tuple #[.agg #[.int .i64 0, .int .i64 0, .int .i64 0, .slice none 0 0, .slice none 0 0, .slice none 0 0], .bool false]) (by simp [results, Try.results20, go_sem, z0, z1, z2, z3, z4, z5]) rfl ?_
              unfold RrRes
              rw [hok]
              refine ⟨by rw [← H.out.2.2]; exact below_turn H8.out.2.2.2.1 H9.out.2 (by simp) (by have := H8.out.2.2.2.1.size; rw [← H.out.2.2] at this; exact this), ?_⟩
              exact ⟨zRep, zSl, zSl, zSl, rfl, ⟨RdB.nil _ _, ⟨rfl, Nat.le_refl _, Nat.zero_le _, .inl rfl⟩, ⟨rfl, .inl rfl⟩, Nat.zero_le _⟩, by rw [if_neg (by decide)]⟩
          · have hok : rrOk l = false := by rw [HO.out, HBd.out]; rfl
            go_wp2_with (refine wpList_store_arr rfl 48 (.tmp 2) (.tmp 53) rfl X 48 _ [.int .i64 0, .int .i64 0, .int .i64 0, .slice none 0 0, .slice none 0 0, .slice none 0 0] H8.out.2.1 rfl rfl (by kernel_rfl) rfl rfl ?_; intro w9 hB9 hT9; have H9 := Lib.hid (And.intro hB9 hT9); clear hB9 hT9)
            have z0 := H9.out.1.cell 0
            have z1 := H9.out.1.cell 1
            have z2 := H9.out.1.cell 2
            have z3 := H9.out.1.cell 3
            have z4 := H9.out.1.cell 4
            have z5 := H9.out.1.cell 5
            simp only [List.getElem?_toArray, List.getElem?_cons_succ, List.getElem?_cons_zero] at z0 z1 z2 z3 z4 z5
            refine bodyPost_ret (v := .tuple #[.agg #[.int .i64 0, .int .i64 0, .int .i64 0, .slice none 0 0, .slice none 0 0, .slice none 0 0], .bool false]) (by simp [results, Try.results20, go_sem, z0, z1, z2, z3, z4, z5]) rfl ?_
            unfold RrRes
            rw [hok]
            refine ⟨by rw [← H.out.2.2]; exact below_turn H8.out.2.2.2.1 H9.out.2 (by simp) (by have := H8.out.2.2.2.1.size; rw [← H.out.2.2] at this; exact this), ?_⟩
            exact ⟨zRep, zSl, zSl, zSl, rfl, ⟨RdB.nil _ _, ⟨rfl, Nat.le_refl _, Nat.zero_le _, .inl rfl⟩, ⟨rfl, .inl rfl⟩, Nat.zero_le _⟩, by rw [if_neg (by decide)]⟩
end Go.Proofs.Ytmanpfenmamflaa
