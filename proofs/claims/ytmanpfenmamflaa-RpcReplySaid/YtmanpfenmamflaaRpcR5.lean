/-
  The reference's Call of what may be.
-/
import Derived.Test.YtmanpfenmamflaaRpcR4
import Derived.Test.YtmanpfenmamflaaAppK
namespace Go.Proofs.Ytmanpfenmamflaa
open Go.RowKit

theorem pcat_le (f : Int × List UInt8 → Option (List UInt8)) (n : Nat) (hf : ∀ a z, f a = some z → z.length ≤ n) : ∀ (l : List (Int × List UInt8)) (y : List UInt8), pcat (l.map f) = some y → y.length ≤ l.length * n
  | [], y, h => by
    have h : some [] = some y := h
    injection h with h
    rw [← h]; simp
  | a :: l, y, h => by
    rw [List.map_cons, pcat] at h
    obtain ⟨u, v, hu, hv, rfl⟩ := ocat_len h
    have h1 := hf a u hu
    have h2 := pcat_le f n hf l v hv
    rw [List.length_append, List.length_cons, Nat.add_mul, Nat.one_mul]
    omega
theorem pnum_len {n most : Int} {size : Nat} {y : List UInt8} (h : pnum n size most = some y) (hs : size ≤ 8) : y.length = size := by
  unfold pnum at h
  split at h
  · cases h
  · injection h with h; rw [← h, num_len _ _ hs]
theorem pattr_le (a : Int × List UInt8) (z : List UInt8) (h : pattr a = some z) : z.length ≤ 20000 := by
  unfold pattr at h
  obtain ⟨u, v, hu, hv, rfl⟩ := ocat_len h
  unfold pbytes at hv
  obtain ⟨u', v', hu', hv', rfl⟩ := ocat_len hv
  have h1 := pnum_len hu (by omega)
  have h2 := pnum_len hu' (by omega)
  have h3 : (a.2.length : Int) ≤ 16384 := by
    unfold pnum at hu'
    split at hu'
    · cases hu'
    · omega
  injection hv' with hv'
  rw [List.length_append, List.length_append, h1, h2, ← hv']
  omega
theorem pattrs_len {l : List (Int × List UInt8)} {y : List UInt8} (h : pattrs l = some y) : y.length ≤ 2000000 := by
  unfold pattrs at h
  obtain ⟨u, v, hu, hv, rfl⟩ := ocat_len h
  have h1 := pnum_len hu (by omega)
  have h2 : (l.length : Int) ≤ 64 := by
    unfold pnum at hu
    split at hu
    · cases hu
    · omega
  have h3 := pcat_le pattr 20000 pattr_le l v hv
  rw [List.length_append, h1]
  have : l.length * 20000 ≤ 64 * 20000 := Nat.mul_le_mul_right _ (by omega)
  omega
theorem step_app2E {ops : Array Oper} {o : Oper} {a : Act} {w : World} {K : Act → World → Prop} {Q : Exit → Act → World → Prop} {E : Prop} (s x : Operand) (base : Nat) (v : Value) (l : List UInt8) (hown : Own w base v l) (hbase : base ≤ w.heap.size)
    (A : Option Addr) (m c : Nat) (l2 : List UInt8) (hrd : RdE w A m c l2) (hlen : l.length + l2.length ≤ 140737488351232) (hgd : o.guard = none)
    (ho : o.op = .call { callee := .builtin .append, args := #[s, x], argTypes := #[22, 22] }) (hs : a.eval s = v) (hx : a.eval x = .slice A m c)
    (h : ∀ (A' : Option Addr) (n' c' : Nat) (w' : World), (n' : Int) ≤ 9223372036854775807 → Grew base w w' v A' n' c' (l ++ l2) → K (a.put o.dst (.slice A' n' c')) w') :
    if Region.wanted o (yielded ops a.tmps) = true then Oper.wp Try.prog o a w K Q else E := by
  rcases hrd with hrd | ⟨rfl, rfl, rfl⟩
  · exact step_app2 s x base v l hown hbase A m c l2 hrd hlen hgd ho hs hx h
  · rw [if_pos (by simp [Region.wanted, hgd])]
    have hrun := run_append_E w base o.type v l hown A
    unfold Oper.wp
    simp only [execOp, ho, resolve, invoke, builtin, Sem.run_bind, Sem.run_pure, Result.andThen_ok, List.map_toArray, List.map_cons, List.map_nil, hs, hx, hrun]
    obtain ⟨A', n', c', rfl, hn, hg⟩ := grew_of (l2 := []) hown hbase (by rw [List.append_nil]; exact hown) ⟨rfl, rfl, rfl, Nat.le_refl _, fun _ _ _ => rfl⟩ (by simp) (.inl rfl)
    exact h _ _ _ _ hn hg
set_option maxRecDepth 100000 in
set_option maxHeartbeats 4000000 in
theorem rcall_yes (c : PCall) (p d e t u : Sl) (w : World) (h : CallIs w w.heap.size c p d e t u) (b1 : ¬ c.fn < 0) (b2 : ¬ 255 < c.fn) (b3 : [c.ss, c.a, c.b, c.n, c.kd].all inHalf = true) (k4 : ¬ (65535 : Int) < c.param.length) (k5 : ¬ (65535 : Int) < c.more.length) (k6 : ¬ (65536 : Int) < c.data.length) :
    Calls Try.prog 10 #[callV c p d e t u] w (FrRes w (frameO (callO c))) := by
  unfold callV
  obtain ⟨X, hX⟩ : ∃ X, X = w.heap.size := ⟨_, rfl⟩
  obtain ⟨wA, hwA⟩ : ∃ wA, w.alloc (.cells (callC c p d e t u) 27) = wA := ⟨_, rfl⟩
  have hC : Blk wA X 27 (callC c p d e t u) := by rw [← hwA, hX]; exact Blk.new _ _ _
  have hbA : Below X w wA := by rw [← hwA, hX]; exact (Below.refl _ _).alloc (Nat.le_refl _) _
  have hsA : wA.heap.size = X + 1 := by rw [← hwA, hX]; simp
  have hI : CallIs wA (X + 1) c p d e t u := ((hX ▸ h).old hbA).mono (by omega)
  have lp := h.hp.len
  have ld := h.hd.len
  have le := h.he.len
  have HA := Lib.hid (And.intro hC (And.intro hbA (And.intro hsA (And.intro hI hX))))
  have HL := Lib.hid (And.intro lp (And.intro ld le))
  have m63 : ∀ {s : Sl} {l : List UInt8}, RdB w w.heap.size s.A s.m s.c l → (s.m : Int) ≤ 9223372036854775807 := fun {s} {l} hr => by
    rcases hr with ⟨hr, _⟩ | hr
    · have := hr.2.1; have := hr.2.2.1; unfold maxLen at this; omega
    · omega
  have mp := m63 h.hp
  have md := m63 h.hd
  have me := m63 h.he
  have hfr : ∀ f, FrRes wA f = FrRes wA f := fun _ => rfl
  clear hbA hsA hI lp ld le m63 hfr h
  have q : ∀ i, wA.cell? ⟨X, i, none⟩ = (callC c p d e t u)[i]? := fun i => hC.cell i
  have q0 := q 0
  have q1 := q 1
  have q2 := q 2
  have q3 := q 3
  have q4 := q 4
  have q5 := q 5
  have q6 := q 6
  have q7 := q 7
  have q8 := q 8
  have q9 := q 9
  have q10 := q 10
  simp only [callC, List.getElem?_toArray, List.getElem?_cons_succ, List.getElem?_cons_zero] at q0 q1 q2 q3 q4 q5 q6 q7 q8 q9 q10
  clear q hC
  have hXw : w.heap.size = X := hX.symm
  clear hX
  unfold callC at hwA
  have d1 : decide (c.fn < 0) = false := decide_eq_false b1
  have d2 : decide (255 < c.fn) = false := decide_eq_false b2
  obtain ⟨wB, hwB⟩ : ∃ wB, wA.alloc (.cells #[.int .i64 c.ss, .int .i64 c.a, .int .i64 c.b, .int .i64 c.n, .int .i64 c.kd] 3) = wB := ⟨_, rfl⟩
  have hQ : Blk wB (X + 1) 3 #[.int .i64 c.ss, .int .i64 c.a, .int .i64 c.b, .int .i64 c.n, .int .i64 c.kd] := by rw [← hwB, ← HA.out.2.2.1]; exact Blk.new _ _ _
  have hbB : Below (X + 1) wA wB := by rw [← hwB, ← HA.out.2.2.1]; exact (Below.refl _ _).alloc (Nat.le_refl _) _
  have hsB : wB.heap.size = X + 2 := by rw [← hwB]; simp [HA.out.2.2.1]
  have hIn : IntsAt wB wB.heap.size ⟨some ⟨X + 1, 0, none⟩, 5, 5⟩ [c.ss, c.a, c.b, c.n, c.kd] := by
    refine ⟨rfl, Nat.le_refl _, (show 5 ≤ maxLen by decide), .inr ⟨X + 1, 0, rfl, hQ.lt, hQ.lt, fun j x hj => ?_⟩⟩
    rw [hQ.cell, Nat.zero_add, show (#[Value.int .i64 c.ss, .int .i64 c.a, .int .i64 c.b, .int .i64 c.n, .int .i64 c.kd] : Array Value) = ([c.ss, c.a, c.b, c.n, c.kd].map (Value.int .i64)).toArray from rfl, List.getElem?_toArray, List.getElem?_map, hj]; rfl
  have hwb : Below w.heap.size w wB := by have := HA.out.2.1.trans (hbB.mono (by omega)); rwa [HA.out.2.2.2.2] at this
  have hsA := HA.out.2.2.1
  have hCB : Blk wB X 27 (callC c p d e t u) := HA.out.1.keep (hbB.block X (by omega))
  have r6 := hCB.cell 6
  have r7 := hCB.cell 7
  have r8 := hCB.cell 8
  have r9 := hCB.cell 9
  have r10 := hCB.cell 10
  simp only [callC, List.getElem?_toArray, List.getElem?_cons_succ, List.getElem?_cons_zero] at r6 r7 r8 r9 r10
  have HB := Lib.hid (And.intro hbB (And.intro hsB (And.intro hIn hwb)))
  clear hCB
  clear hQ hbB hsB hIn hwb
  have b4 : ¬ (65535 : Int) < p.m := by rw [HL.out.1]; exact k4
  have b5 : ¬ (65535 : Int) < e.m := by rw [HL.out.2.2]; exact k5
  have b6 : ¬ (65536 : Int) < d.m := by rw [HL.out.2.1]; exact k6
  have d4 : decide ((65535 : Int) < p.m) = false := decide_eq_false b4
  have d5 : decide ((65535 : Int) < e.m) = false := decide_eq_false b5
  have d6 : decide ((65536 : Int) < d.m) = false := decide_eq_false b6
  clear k4 k5 k6
  obtain ⟨R, hR⟩ : ∃ R, frameO (callO c) = R := ⟨_, rfl⟩
  rw [hR]
  have HRR := Lib.hid (And.intro hR b3)
  go_enter Try.func10, Try.ntmps10
  go_wp2_with fail
  refine (fits_any ⟨some ⟨X + 1, 0, none⟩, 5, 5⟩ [c.ss, c.a, c.b, c.n, c.kd] wB HB.out.2.2.1).mono ?_
  rintro e0 w0 ⟨rfl, rfl⟩
  rw [b3]
  clear b3 hR
  go_wp2_with fail
  have hIB : CallIs wB wB.heap.size c p d e t u := (HA.out.2.2.2.1.old HB.out.1).mono (by rw [HB.out.2.1]; omega)
  refine (rattrs25_any t.A t.m t.c c.t1 wB hIB.ht hIB.tm).mono ?_
  rintro e1 w1 ⟨hb1, hres1⟩
  have hB1 : Below (X + 1) wA w1 := HB.out.1.trans (hb1.mono (by rw [HB.out.2.1]; omega))
  have hs1 : X + 2 ≤ w1.heap.size := by have := hb1.size; rw [HB.out.2.1] at this; exact this
  have hw1 : Below w.heap.size w w1 := HB.out.2.2.2.trans (hb1.mono HB.out.2.2.2.size)
  have hC1 : Blk w1 X 27 (callC c p d e t u) := HA.out.1.keep (hB1.block X (by omega))
  have q10 := hC1.cell 10
  simp only [callC, List.getElem?_toArray, List.getElem?_cons_succ, List.getElem?_cons_zero] at q10
  have hI1 : CallIs w1 w1.heap.size c p d e t u := (HA.out.2.2.2.1.old hB1).mono (by omega)
  have H1 := Lib.hid (And.intro hB1 (And.intro hs1 (And.intro hw1 (And.intro hI1 hb1))))
  clear hB1 hs1 hw1 hC1 hI1 hb1 hIB r6 r7 r8 r9 r10 q0 q1 q2 q3 q4 q5 q6 q7 q8 q9 hwA hwB
  rcases hres1 with ⟨hn1, rfl⟩ | ⟨x1, hx1, A1, n1, c1, rfl, hO1⟩
  · have hRn : R = none := by rw [← HRR.out.1]; exact callO_no (.inr (.inr (.inr (.inr (.inr (.inr (.inl hn1)))))))
    subst hRn
    clear hn1
    go_wp2_with fail
    refine (rattrs25_any u.A u.m u.c c.t2 w1 H1.out.2.2.2.1.hu H1.out.2.2.2.1.um).mono ?_
    rintro e2 w2 ⟨hb2, hres2⟩
    have H2 := Lib.hid (H1.out.2.2.1.trans (hb2.mono H1.out.2.2.1.size))
    clear hb2
    rcases hres2 with ⟨_, rfl⟩ | ⟨x2, _, A2, n2, c2, rfl, _⟩
    · go_wp2_with fail
      go_ret2
      exact ⟨H2.out, .inl ⟨rfl, rfl⟩⟩
    · go_wp2_with fail
      go_ret2
      exact ⟨H2.out, .inl ⟨rfl, rfl⟩⟩
  · have HO1 := Lib.hid (And.intro hx1 hO1)
    clear hx1 hO1
    go_wp2_with fail
    refine (rattrs25_any u.A u.m u.c c.t2 w1 H1.out.2.2.2.1.hu H1.out.2.2.2.1.um).mono ?_
    rintro e2 w2 ⟨hb2, hres2⟩
    rcases hres2 with ⟨hn2, rfl⟩ | ⟨x2, hx2, A2, n2, c2, rfl, hO2⟩
    · have hRn : R = none := by rw [← HRR.out.1]; exact callO_no (.inr (.inr (.inr (.inr (.inr (.inr (.inr hn2)))))))
      subst hRn
      have H2 := Lib.hid (H1.out.2.2.1.trans (hb2.mono H1.out.2.2.1.size))
      clear hn2 hb2
      go_wp2_with fail
      go_ret2
      exact ⟨H2.out, .inl ⟨rfl, rfl⟩⟩
    · have H2 := Lib.hid (And.intro hx2 (And.intro hO2 hb2))
      have hB2 : Below (X + 1) wA w2 := H1.out.1.trans (hb2.mono (by have := H1.out.2.1; omega))
      have hC2 : Blk w2 X 27 (callC c p d e t u) := HA.out.1.keep (hB2.block X (by omega))
      have HC2 := Lib.hid (And.intro hB2 hC2)
      clear hx2 hO2 hb2 hB2
      have q0 := hC2.cell 0
      have q1 := hC2.cell 1
      have q2 := hC2.cell 2
      have q3 := hC2.cell 3
      have q4 := hC2.cell 4
      have q5 := hC2.cell 5
      simp only [callC, List.getElem?_toArray, List.getElem?_cons_succ, List.getElem?_cons_zero] at q0 q1 q2 q3 q4 q5
      clear hC2 q10
      obtain ⟨F, hF⟩ := Int.eq_ofNat_of_zero_le (show 0 ≤ c.fn by omega)
      have hF255 : F ≤ 255 := by omega
      have hcv : (convert 3 5 (.int .i64 c.fn)).run Try.prog w2 = .ok (B (UInt8.ofNat F)) w2 := by
        rw [hF, conv_int w2 .u8 Try.underlying3 Try.underlying5]
        unfold B
        rw [UInt8.toNat_ofNat']
        congr 2
      have hXw2 : X < w2.heap.size := by have := HC2.out.2.lt; exact this
      have HFn := Lib.hid (And.intro hF hF255)
      clear hF
      go_wp2_with fail
      clear hcv q0 q1 q2 q3 q4 q5
      obtain ⟨wC, hwC⟩ : ∃ wC, (w2.alloc (.cells #[B (UInt8.ofNat F)] 5)).alloc (.cells #[.int .i64 c.ss, .int .i64 c.a, .int .i64 c.b, .int .i64 c.n, .int .i64 c.kd] 3) = wC := ⟨_, rfl⟩
      have hl1 : num F 1 = [UInt8.ofNat F] := by
        rw [← numL_all F 1 (by omega) (.inl rfl)]
        show [UInt8.ofNat (F / 256 ^ 0 % 256)] = _
        rw [Nat.pow_zero, Nat.div_one, Nat.mod_eq_of_lt (by omega)]
      obtain ⟨Z, hZ⟩ : ∃ Z, w2.heap.size = Z := ⟨_, rfl⟩
      have hOb : Own wC Z (.slice (some ⟨Z, 0, none⟩) 1 1) (num F 1) := by
        rw [← hwC, ← hZ]
        exact (own_lit (by rw [hl1]; rfl) (by rw [hl1]; rfl) (by rw [hl1, List.length_singleton]; omega)).alloc_ _
      have hQC : Blk wC (Z + 1) 3 #[.int .i64 c.ss, .int .i64 c.a, .int .i64 c.b, .int .i64 c.n, .int .i64 c.kd] := by
        rw [← hwC, ← hZ]
        have := Blk.new (w2.alloc (.cells #[B (UInt8.ofNat F)] 5)) 3 #[.int .i64 c.ss, .int .i64 c.a, .int .i64 c.b, .int .i64 c.n, .int .i64 c.kd]
        rwa [show (w2.alloc (.cells #[B (UInt8.ofNat F)] 5)).heap.size = w2.heap.size + 1 by simp] at this
      have hbC : Below Z w2 wC := by rw [← hwC, ← hZ]; exact ((Below.refl _ _).alloc (Nat.le_refl _) _).alloc (by simp) _
      have hpn : pnum c.fn 1 255 = some (num F 1) := by rw [HFn.out.1]; exact pnum_ok (by omega)
      rw [hwC, hZ]
      have HC := Lib.hid (And.intro hOb (And.intro hQC (And.intro hbC (And.intro hpn (And.intro hZ hl1)))))
      rw [hZ] at hXw2
      clear hwC hl1 hOb hQC hbC hpn hZ
      go_loopw [8, 10] (fun v kk wr => ∃ k : Nat, k ≤ 5 ∧ kk = .int .i64 (k : Int) ∧ ∃ Ab nb cb bs, v = .slice Ab nb cb ∧ Own wr Z (.slice Ab nb cb) bs ∧ some bs = ocat (pnum c.fn 1 255) (pcat (([c.ss, c.a, c.b, c.n, c.kd].take k).map p4)) ∧ Below Z w2 wr ∧ Blk wr (Z + 1) 3 #[.int .i64 c.ss, .int .i64 c.a, .int .i64 c.b, .int .i64 c.n, .int .i64 c.kd] ∧ bs.length ≤ 1 + k * 4) (fun _ kk _ => 5 - (intOf kk).toNat)
      case atStart => exact ⟨0, by omega, rfl, _, _, _, _, rfl, HC.out.1, by rw [List.take_zero, List.map_nil, pcat, ocat_nil, HC.out.2.2.2.1], HC.out.2.2.1, HC.out.2.1, by rw [num_len _ _ (by omega)]; omega⟩
      case round =>
        obtain ⟨k, hk, rfl, Ab, nb, cb, bs, rfl, hO, hbs, hB, hQ, hlen⟩ := hrel
        by_cases hlt : k < 5
        · have hlti : (k : Int) < 5 := by omega
          have hltd : decide ((k : Int) < 5) = true := decide_eq_true hlti
          have hk0 : ¬ ((k : Int) < 0) := by omega
          obtain ⟨x, hx⟩ : ∃ x, [c.ss, c.a, c.b, c.n, c.kd][k]? = some x := ⟨_, List.getElem?_eq_getElem (by simpa using hlt)⟩
          have hxin : inHalf x = true := List.all_eq_true.1 HRR.out.2 x (List.mem_of_getElem? hx)
          have qk : wr.cell? ⟨Z + 1, k, none⟩ = some (.int .i64 x) := by
            rw [hQ.cell k, show (#[Value.int .i64 c.ss, .int .i64 c.a, .int .i64 c.b, .int .i64 c.n, .int .i64 c.kd] : Array Value) = ([c.ss, c.a, c.b, c.n, c.kd].map (Value.int .i64)).toArray from rfl, List.getElem?_toArray, List.getElem?_map, hx]; rfl
          have hp4 := p4_in hxin
          have hxr := of_decide_eq_true hxin
          obtain ⟨N, hN⟩ := Int.eq_ofNat_of_zero_le hxr.1
          have hN2 : N ≤ 2147483647 := by omega
          rw [hN] at qk
          rw [hN, Int.toNat_natCast] at hp4
          have HR := Lib.hid (And.intro hO (And.intro hbs (And.intro hB (And.intro hQ (And.intro hlen (And.intro hx (And.intro hp4 hN)))))))
          clear hO hbs hB hQ hlen hx hp4 hxin hxr hN
          go_wp2_with fail
          refine (rnum_any N 4 wr (by omega) (.inr (.inr rfl))).mono ?_
          rintro e3 w3 ⟨A3, n3, c3, rfl, hO3, hB3⟩
          have H3 := Lib.hid (And.intro hO3 (And.intro hB3 (HR.out.2.2.1.trans (hB3.mono (by have := HR.out.2.2.1.size; have := HC.out.2.2.2.2.1; omega)))))
          clear hO3 hB3
          go_wp2_with (at_builtin; go_must (refine wp_app2 (.tmp 101) (.tmp 102) Z (.slice Ab nb cb) bs (HR.out.1.below H3.out.2.1) (by have := H3.out.2.2.size; have := HC.out.2.2.2.2.1; omega) A3 n3 c3 (num N 4) H3.out.1.rd (by rw [num_len _ _ (by omega)]; have := HR.out.2.2.2.2.1; omega) rfl rfl rfl rfl ?_); intro A4 n4 c4 w4 hi4 hG; have H4 := Lib.hid (And.intro hG (H3.out.2.2.trans hG.below)); clear hG)
          go_roundw
          case measure => simp [intOf]; omega
          refine ⟨k + 1, by omega, by simp, A4, n4, c4, _, rfl, H4.out.1.own, ?_, H4.out.2, ?_, ?_⟩
          · rw [pcat_stepI _ _ _ HR.out.2.2.2.2.2.1, ← ocat_assoc, ← HR.out.2.1, HR.out.2.2.2.2.2.2.2, HR.out.2.2.2.2.2.2.1, ocat_some]
          · have hQ3 := HR.out.2.2.2.1.below H3.out.2.1
            refine hQ3.keep (H4.out.1.grown.block _ hQ3.lt (fun e => ?_))
            exact (HR.out.1.below H3.out.2.1).ne hQ3 (by decide) e.symm
          · rw [List.length_append, num_len _ _ (by omega)]; have := HR.out.2.2.2.2.1; omega
        · obtain rfl : k = 5 := by omega
          have hlti : ¬ ((5 : Nat) : Int) < 5 := by omega
          have hbz : Z ≤ wr.heap.size := by have := hB.size; have := HC.out.2.2.2.2.1; omega
          rw [List.take_of_length_le (by simp)] at hbs
          obtain ⟨s0, hs0⟩ : ∃ s0, ocat (pnum c.fn 1 255) (pcat ([c.ss, c.a, c.b, c.n, c.kd].map p4)) = s0 := ⟨_, rfl⟩
          rw [hs0] at hbs
          have HS0 := Lib.hid hs0
          have HR := Lib.hid (And.intro hO (And.intro hbs (And.intro hB (And.intro hbz hlen))))
          clear hO hbs hB hQ hlen hbz hs0
          have kC : Blk wr X 27 (callC c p d e t u) := HC2.out.2.keep (HR.out.2.2.1.block X hXw2)
          have k6 := kC.cell 6
          simp only [callC, List.getElem?_toArray, List.getElem?_cons_succ, List.getElem?_cons_zero] at k6
          clear kC
          go_wp2_with fail
          clear k6
          refine (rnum_any p.m 2 wr (by omega) (.inr (.inl rfl))).mono ?_
          rintro en1 wn1 ⟨An1, nn1, cn1, rfl, hOn, hBn⟩
          have HN1 := Lib.hid (And.intro hOn (And.intro hBn (And.intro (HR.out.2.2.1.trans (hBn.mono HR.out.2.2.2.1)) (Nat.le_trans HR.out.2.2.2.1 hBn.size))))
          clear hOn hBn
          have kC : Blk wn1 X 27 (callC c p d e t u) := HC2.out.2.keep (HN1.out.2.2.1.block X hXw2)
          have k6 := kC.cell 6
          simp only [callC, List.getElem?_toArray, List.getElem?_cons_succ, List.getElem?_cons_zero] at k6
          clear kC
          have HK1 := Lib.hid k6
          clear k6
          go_wp2_with fail
          refine region_turn (Value.slice Ab nb cb).ownBlock.toList (by kernel_rfl) (fun wd hOld hHeld hSz => ?_)
          have HO := Lib.hid hOld
          clear hOld hSz
          refine takeL (i := 0) (v := ?_) rfl (by kernel_rfl) (by kernel_rfl) (by kernel_rfl) (fun _ _ _ h => h) (Or.inl ⟨by rfl, ?_⟩) hHeld ?_
          rotate_left
          focus (intro wq hSw; clear hSw; go_simp; try with_reducible rfl)
          try simp only [Act.put, List.setIfInBounds_toArray, List.set_cons_zero, List.set_cons_succ]
          refine takeL (i := 1) (v := ?_) rfl (by kernel_rfl) (by kernel_rfl) (by kernel_rfl) (fun _ _ _ h => h) (Or.inl ⟨by rfl, ?_⟩) hHeld ?_
          rotate_left
          focus (intro wq hSw; clear hSw; go_simp; try with_reducible rfl)
          try simp only [Act.put, List.setIfInBounds_toArray, List.set_cons_zero, List.set_cons_succ]
          refine takeL (i := 3) (v := ?_) rfl (by kernel_rfl) (by kernel_rfl) (by kernel_rfl) (fun _ _ _ h => h) (Or.inl ⟨by rfl, ?_⟩) hHeld ?_
          rotate_left
          focus (intro wq hSw; clear hSw; go_simp; try with_reducible rfl)
          try simp only [Act.put, List.setIfInBounds_toArray, List.set_cons_zero, List.set_cons_succ]
          refine takeL (i := 4) (v := ?_) rfl (by kernel_rfl) (by kernel_rfl) (by kernel_rfl) (fun _ _ _ h => h) (Or.inl ⟨by rfl, ?_⟩) hHeld ?_
          rotate_left
          focus (intro wq hSw; clear hSw; go_simp; try with_reducible rfl)
          try simp only [Act.put, List.setIfInBounds_toArray, List.set_cons_zero, List.set_cons_succ]
          refine takeL (i := 5) (v := ?_) rfl (by kernel_rfl) (by kernel_rfl) (by kernel_rfl) (fun _ _ _ h => h) (Or.inl ⟨by rfl, ?_⟩) hHeld ?_
          rotate_left
          focus (intro wq hSw; have hcq := cell_turn HK1.out hSw (fun hm => by have := (HR.out.1.lt (show _ = some X by simpa using hm)).1; omega); clear hSw; go_simp; try with_reducible rfl)
          try simp only [Act.put, List.setIfInBounds_toArray, List.set_cons_zero, List.set_cons_succ]
          refine wpAnyH_ready (rs := [2]) (by kernel_rfl) (by simp) ?_
          refine consL rfl (fun K hK => ?_) AllReadyH.nil
          refine step_app2 (.tmp 109) (.tmp 110) Z (.slice Ab nb cb) bs ((HR.out.1.below HN1.out.2.1).below HO.out) (Nat.le_trans HN1.out.2.2.2 HO.out.size) An1 nn1 cn1 (num p.m 2) (HN1.out.1.rd.below HO.out) (by rw [num_len _ _ (by omega)]; have := HR.out.2.2.2.2; omega) rfl rfl rfl rfl ?_
          intro Ap1 np1 cp1 wp1 hip1 hG
          have hz : Turn (Value.slice Ab nb cb).ownBlock.toList wn1 wp1 := hHeld.grown hG.grown (fun k hk => .inl (by rw [hk]; simp))
          have hat : ∀ k, (Value.slice Ap1 np1 cp1).ownBlock = some k → k ∈ (Value.slice Ab nb cb).ownBlock.toList ∨ wn1.heap.size ≤ k := fun k hk => by
            rcases hG.at_ with e | e
            · left; rw [← e, hk]; simp
            · right; rw [e] at hk; cases hk; exact HO.out.size
          have HG1 := Lib.hid (And.intro hG.own (And.intro hz (And.intro hat ((HO.out.mono HN1.out.2.2.2).trans hG.below))))
          refine hK.out _ _ hz (fun hHeld => ?_)
          clear hK K hG hat
          try simp only [Act.put, List.setIfInBounds_toArray, List.set_cons_zero, List.set_cons_succ]
          refine wpAnyH_ready (rs := [6]) (by kernel_rfl) (by simp) ?_
          refine consL rfl (fun K hK => ?_) AllReadyH.nil
          have hrx : RdB wp1 Z p.A p.m p.c c.param := ((H1.out.2.2.2.1.hp.old H2.out.2.2).mono (by have := HC.out.2.2.2.2.1; have := H2.out.2.2.size; omega)).old (HN1.out.2.2.1.trans HG1.out.2.2.2)
          refine step_app2E (.tmp 111) (.tmp 114) Z (.slice Ap1 np1 cp1) _ HG1.out.1 (Nat.le_trans HN1.out.2.2.2 HG1.out.2.1.size) p.A p.m p.c c.param hrx.e (by rw [List.length_append, num_len _ _ (by omega)]; have := HR.out.2.2.2.2; have := HL.out.1; omega) rfl rfl rfl rfl ?_
          intro Aq1 nq1 cq1 wq1 hiq1 hG
          have hz2 : Turn (Value.slice Ab nb cb).ownBlock.toList wn1 wq1 := HG1.out.2.1.grown hG.grown (fun k hk => HG1.out.2.2.1 k hk)
          refine hK.out _ _ hz2 (fun hHeld => ?_)
          clear hK K hz hz2 hrx
          try simp only [Act.put, List.setIfInBounds_toArray, List.set_cons_zero, List.set_cons_succ]
          have HQ1 := Lib.hid (And.intro hG.own (HG1.out.2.2.2.trans hG.below))
          clear hG
          refine takeL (i := 7) (v := ?_) rfl (by kernel_rfl) (by kernel_rfl) (by kernel_rfl) (fun _ _ _ h => h) (Or.inl ⟨by rfl, ?_⟩) hHeld ?_
          rotate_left
          focus (intro wq hSw; clear hSw; go_simp; try with_reducible rfl)
          try simp only [Act.put, List.setIfInBounds_toArray, List.set_cons_zero, List.set_cons_succ]
          refine wpAnyH_done (by kernel_rfl) ?_ _
          refine NoPanic.normal ?_
          clear hHeld
          obtain ⟨y1, hy1⟩ : ∃ y, bs ++ num p.m 2 ++ c.param = y := ⟨_, rfl⟩
          obtain ⟨s1, hs1⟩ : ∃ z, ocat s0 (pbytes c.param 2 65535) = z := ⟨_, rfl⟩
          have hys : some y1 = s1 := by rw [← hs1, ← HR.out.2.1, pbytes_ok (by have := HL.out.1; omega), ocat_some, ← hy1, List.append_assoc, HL.out.1]
          have hyl : y1.length ≤ 70100 := by rw [← hy1, List.length_append, List.length_append, num_len _ _ (by omega)]; have := HR.out.2.2.2.2; have := HL.out.1; omega
          have HW1 := Lib.hid (And.intro (show Own wq1 Z (.slice Aq1 nq1 cq1) y1 by rw [← hy1]; exact HQ1.out.1) (And.intro hys (And.intro (HN1.out.2.2.1.trans HQ1.out.2) (And.intro (Nat.le_trans HN1.out.2.2.2 HQ1.out.2.size) hyl))))
          have HS1 := Lib.hid hs1
          clear hy1 hs1 hys hyl
          have kC : Blk wq1 X 27 (callC c p d e t u) := HC2.out.2.keep (HW1.out.2.2.1.block X hXw2)
          have k7 := kC.cell 7
          simp only [callC, List.getElem?_toArray, List.getElem?_cons_succ, List.getElem?_cons_zero] at k7
          clear kC
          go_wp2_with fail
          clear k7
          refine (rnum_any d.m 4 wq1 (by omega) (.inr (.inr rfl))).mono ?_
          rintro en2 wn2 ⟨An2, nn2, cn2, rfl, hOn, hBn⟩
          have HN2 := Lib.hid (And.intro hOn (And.intro hBn (And.intro (HW1.out.2.2.1.trans (hBn.mono HW1.out.2.2.2.1)) (Nat.le_trans HW1.out.2.2.2.1 hBn.size))))
          clear hOn hBn
          have kC : Blk wn2 X 27 (callC c p d e t u) := HC2.out.2.keep (HN2.out.2.2.1.block X hXw2)
          have k7 := kC.cell 7
          simp only [callC, List.getElem?_toArray, List.getElem?_cons_succ, List.getElem?_cons_zero] at k7
          clear kC
          have HK2 := Lib.hid k7
          clear k7
          go_wp2_with fail
          refine region_turn (Value.slice Aq1 nq1 cq1).ownBlock.toList (by kernel_rfl) (fun wd hOld hHeld hSz => ?_)
          have HO := Lib.hid hOld
          clear hOld hSz
          refine takeL (i := 0) (v := ?_) rfl (by kernel_rfl) (by kernel_rfl) (by kernel_rfl) (fun _ _ _ h => h) (Or.inl ⟨by rfl, ?_⟩) hHeld ?_
          rotate_left
          focus (intro wq hSw; clear hSw; go_simp; try with_reducible rfl)
          try simp only [Act.put, List.setIfInBounds_toArray, List.set_cons_zero, List.set_cons_succ]
          refine takeL (i := 1) (v := ?_) rfl (by kernel_rfl) (by kernel_rfl) (by kernel_rfl) (fun _ _ _ h => h) (Or.inl ⟨by rfl, ?_⟩) hHeld ?_
          rotate_left
          focus (intro wq hSw; clear hSw; go_simp; try with_reducible rfl)
          try simp only [Act.put, List.setIfInBounds_toArray, List.set_cons_zero, List.set_cons_succ]
          refine takeL (i := 3) (v := ?_) rfl (by kernel_rfl) (by kernel_rfl) (by kernel_rfl) (fun _ _ _ h => h) (Or.inl ⟨by rfl, ?_⟩) hHeld ?_
          rotate_left
          focus (intro wq hSw; clear hSw; go_simp; try with_reducible rfl)
          try simp only [Act.put, List.setIfInBounds_toArray, List.set_cons_zero, List.set_cons_succ]
          refine takeL (i := 4) (v := ?_) rfl (by kernel_rfl) (by kernel_rfl) (by kernel_rfl) (fun _ _ _ h => h) (Or.inl ⟨by rfl, ?_⟩) hHeld ?_
          rotate_left
          focus (intro wq hSw; have hcq := cell_turn HK2.out hSw (fun hm => by have := (HW1.out.1.lt (show _ = some X by simpa using hm)).1; omega); clear hSw; go_simp; try with_reducible rfl)
          try simp only [Act.put, List.setIfInBounds_toArray, List.set_cons_zero, List.set_cons_succ]
          refine wpAnyH_ready (rs := [2]) (by kernel_rfl) (by simp) ?_
          refine consL rfl (fun K hK => ?_) AllReadyH.nil
          refine step_app2 (.tmp 120) (.tmp 121) Z (.slice Aq1 nq1 cq1) y1 ((HW1.out.1.below HN2.out.2.1).below HO.out) (Nat.le_trans HN2.out.2.2.2 HO.out.size) An2 nn2 cn2 (num d.m 4) (HN2.out.1.rd.below HO.out) (by rw [num_len _ _ (by omega)]; have := HW1.out.2.2.2.2; omega) rfl rfl rfl rfl ?_
          intro Ap2 np2 cp2 wp2 hip2 hG
          have hz : Turn (Value.slice Aq1 nq1 cq1).ownBlock.toList wn2 wp2 := hHeld.grown hG.grown (fun k hk => .inl (by rw [hk]; simp))
          have hat : ∀ k, (Value.slice Ap2 np2 cp2).ownBlock = some k → k ∈ (Value.slice Aq1 nq1 cq1).ownBlock.toList ∨ wn2.heap.size ≤ k := fun k hk => by
            rcases hG.at_ with e | e
            · left; rw [← e, hk]; simp
            · right; rw [e] at hk; cases hk; exact HO.out.size
          have HG2 := Lib.hid (And.intro hG.own (And.intro hz (And.intro hat ((HO.out.mono HN2.out.2.2.2).trans hG.below))))
          refine hK.out _ _ hz (fun hHeld => ?_)
          clear hK K hG hat
          try simp only [Act.put, List.setIfInBounds_toArray, List.set_cons_zero, List.set_cons_succ]
          refine wpAnyH_ready (rs := [5]) (by kernel_rfl) (by simp) ?_
          refine consL rfl (fun K hK => ?_) AllReadyH.nil
          have hrx : RdB wp2 Z d.A d.m d.c c.data := ((H1.out.2.2.2.1.hd.old H2.out.2.2).mono (by have := HC.out.2.2.2.2.1; have := H2.out.2.2.size; omega)).old (HN2.out.2.2.1.trans HG2.out.2.2.2)
          refine step_app2E (.tmp 122) (.tmp 124) Z (.slice Ap2 np2 cp2) _ HG2.out.1 (Nat.le_trans HN2.out.2.2.2 HG2.out.2.1.size) d.A d.m d.c c.data hrx.e (by rw [List.length_append, num_len _ _ (by omega)]; have := HW1.out.2.2.2.2; have := HL.out.2.1; omega) rfl rfl rfl rfl ?_
          intro Aq2 nq2 cq2 wq2 hiq2 hG
          have hz2 : Turn (Value.slice Aq1 nq1 cq1).ownBlock.toList wn2 wq2 := HG2.out.2.1.grown hG.grown (fun k hk => HG2.out.2.2.1 k hk)
          refine hK.out _ _ hz2 (fun hHeld => ?_)
          clear hK K hz hz2 hrx
          try simp only [Act.put, List.setIfInBounds_toArray, List.set_cons_zero, List.set_cons_succ]
          have HQ2 := Lib.hid (And.intro hG.own (HG2.out.2.2.2.trans hG.below))
          clear hG
          refine takeL (i := 6) (v := ?_) rfl (by kernel_rfl) (by kernel_rfl) (by kernel_rfl) (fun _ _ _ h => h) (Or.inl ⟨by rfl, ?_⟩) hHeld ?_
          rotate_left
          focus (intro wq hSw; clear hSw; go_simp; try with_reducible rfl)
          try simp only [Act.put, List.setIfInBounds_toArray, List.set_cons_zero, List.set_cons_succ]
          refine wpAnyH_done (by kernel_rfl) ?_ _
          refine NoPanic.normal ?_
          clear hHeld
          obtain ⟨y2, hy2⟩ : ∃ y, y1 ++ num d.m 4 ++ c.data = y := ⟨_, rfl⟩
          obtain ⟨s2, hs2⟩ : ∃ z, ocat s1 (pbytes c.data 4 65536) = z := ⟨_, rfl⟩
          have hys : some y2 = s2 := by rw [← hs2, ← HW1.out.2.1, pbytes_ok (by have := HL.out.2.1; omega), ocat_some, ← hy2, List.append_assoc, HL.out.2.1]
          have hyl : y2.length ≤ 140100 := by rw [← hy2, List.length_append, List.length_append, num_len _ _ (by omega)]; have := HW1.out.2.2.2.2; have := HL.out.2.1; omega
          have HW2 := Lib.hid (And.intro (show Own wq2 Z (.slice Aq2 nq2 cq2) y2 by rw [← hy2]; exact HQ2.out.1) (And.intro hys (And.intro (HN2.out.2.2.1.trans HQ2.out.2) (And.intro (Nat.le_trans HN2.out.2.2.2 HQ2.out.2.size) hyl))))
          have HS2 := Lib.hid hs2
          clear hy2 hs2 hys hyl
          have kC : Blk wq2 X 27 (callC c p d e t u) := HC2.out.2.keep (HW2.out.2.2.1.block X hXw2)
          have k8 := kC.cell 8
          simp only [callC, List.getElem?_toArray, List.getElem?_cons_succ, List.getElem?_cons_zero] at k8
          clear kC
          go_wp2_with fail
          clear k8
          refine (rnum_any e.m 2 wq2 (by omega) (.inr (.inl rfl))).mono ?_
          rintro en3 wn3 ⟨An3, nn3, cn3, rfl, hOn, hBn⟩
          have HN3 := Lib.hid (And.intro hOn (And.intro hBn (And.intro (HW2.out.2.2.1.trans (hBn.mono HW2.out.2.2.2.1)) (Nat.le_trans HW2.out.2.2.2.1 hBn.size))))
          clear hOn hBn
          have kC : Blk wn3 X 27 (callC c p d e t u) := HC2.out.2.keep (HN3.out.2.2.1.block X hXw2)
          have k8 := kC.cell 8
          simp only [callC, List.getElem?_toArray, List.getElem?_cons_succ, List.getElem?_cons_zero] at k8
          clear kC
          have HK3 := Lib.hid k8
          clear k8
          go_wp2_with fail
          refine region_turn (Value.slice Aq2 nq2 cq2).ownBlock.toList (by kernel_rfl) (fun wd hOld hHeld hSz => ?_)
          have HO := Lib.hid hOld
          clear hOld hSz
          refine takeL (i := 0) (v := ?_) rfl (by kernel_rfl) (by kernel_rfl) (by kernel_rfl) (fun _ _ _ h => h) (Or.inl ⟨by rfl, ?_⟩) hHeld ?_
          rotate_left
          focus (intro wq hSw; clear hSw; go_simp; try with_reducible rfl)
          try simp only [Act.put, List.setIfInBounds_toArray, List.set_cons_zero, List.set_cons_succ]
          refine takeL (i := 1) (v := ?_) rfl (by kernel_rfl) (by kernel_rfl) (by kernel_rfl) (fun _ _ _ h => h) (Or.inl ⟨by rfl, ?_⟩) hHeld ?_
          rotate_left
          focus (intro wq hSw; clear hSw; go_simp; try with_reducible rfl)
          try simp only [Act.put, List.setIfInBounds_toArray, List.set_cons_zero, List.set_cons_succ]
          refine takeL (i := 3) (v := ?_) rfl (by kernel_rfl) (by kernel_rfl) (by kernel_rfl) (fun _ _ _ h => h) (Or.inl ⟨by rfl, ?_⟩) hHeld ?_
          rotate_left
          focus (intro wq hSw; clear hSw; go_simp; try with_reducible rfl)
          try simp only [Act.put, List.setIfInBounds_toArray, List.set_cons_zero, List.set_cons_succ]
          refine takeL (i := 4) (v := ?_) rfl (by kernel_rfl) (by kernel_rfl) (by kernel_rfl) (fun _ _ _ h => h) (Or.inl ⟨by rfl, ?_⟩) hHeld ?_
          rotate_left
          focus (intro wq hSw; have hcq := cell_turn HK3.out hSw (fun hm => by have := (HW2.out.1.lt (show _ = some X by simpa using hm)).1; omega); clear hSw; go_simp; try with_reducible rfl)
          try simp only [Act.put, List.setIfInBounds_toArray, List.set_cons_zero, List.set_cons_succ]
          refine wpAnyH_ready (rs := [2]) (by kernel_rfl) (by simp) ?_
          refine consL rfl (fun K hK => ?_) AllReadyH.nil
          refine step_app2 (.tmp 130) (.tmp 131) Z (.slice Aq2 nq2 cq2) y2 ((HW2.out.1.below HN3.out.2.1).below HO.out) (Nat.le_trans HN3.out.2.2.2 HO.out.size) An3 nn3 cn3 (num e.m 2) (HN3.out.1.rd.below HO.out) (by rw [num_len _ _ (by omega)]; have := HW2.out.2.2.2.2; omega) rfl rfl rfl rfl ?_
          intro Ap3 np3 cp3 wp3 hip3 hG
          have hz : Turn (Value.slice Aq2 nq2 cq2).ownBlock.toList wn3 wp3 := hHeld.grown hG.grown (fun k hk => .inl (by rw [hk]; simp))
          have hat : ∀ k, (Value.slice Ap3 np3 cp3).ownBlock = some k → k ∈ (Value.slice Aq2 nq2 cq2).ownBlock.toList ∨ wn3.heap.size ≤ k := fun k hk => by
            rcases hG.at_ with e | e
            · left; rw [← e, hk]; simp
            · right; rw [e] at hk; cases hk; exact HO.out.size
          have HG3 := Lib.hid (And.intro hG.own (And.intro hz (And.intro hat ((HO.out.mono HN3.out.2.2.2).trans hG.below))))
          refine hK.out _ _ hz (fun hHeld => ?_)
          clear hK K hG hat
          try simp only [Act.put, List.setIfInBounds_toArray, List.set_cons_zero, List.set_cons_succ]
          refine wpAnyH_ready (rs := [5]) (by kernel_rfl) (by simp) ?_
          refine consL rfl (fun K hK => ?_) AllReadyH.nil
          have hrx : RdB wp3 Z e.A e.m e.c c.more := ((H1.out.2.2.2.1.he.old H2.out.2.2).mono (by have := HC.out.2.2.2.2.1; have := H2.out.2.2.size; omega)).old (HN3.out.2.2.1.trans HG3.out.2.2.2)
          refine step_app2E (.tmp 132) (.tmp 134) Z (.slice Ap3 np3 cp3) _ HG3.out.1 (Nat.le_trans HN3.out.2.2.2 HG3.out.2.1.size) e.A e.m e.c c.more hrx.e (by rw [List.length_append, num_len _ _ (by omega)]; have := HW2.out.2.2.2.2; have := HL.out.2.2; omega) rfl rfl rfl rfl ?_
          intro Aq3 nq3 cq3 wq3 hiq3 hG
          have hz2 : Turn (Value.slice Aq2 nq2 cq2).ownBlock.toList wn3 wq3 := HG3.out.2.1.grown hG.grown (fun k hk => HG3.out.2.2.1 k hk)
          refine hK.out _ _ hz2 (fun hHeld => ?_)
          clear hK K hz hz2 hrx
          try simp only [Act.put, List.setIfInBounds_toArray, List.set_cons_zero, List.set_cons_succ]
          have HQ3 := Lib.hid (And.intro hG.own (HG3.out.2.2.2.trans hG.below))
          clear hG
          refine takeL (i := 6) (v := ?_) rfl (by kernel_rfl) (by kernel_rfl) (by kernel_rfl) (fun _ _ _ h => h) (Or.inl ⟨by rfl, ?_⟩) hHeld ?_
          rotate_left
          focus (intro wq hSw; clear hSw; go_simp; try with_reducible rfl)
          try simp only [Act.put, List.setIfInBounds_toArray, List.set_cons_zero, List.set_cons_succ]
          refine wpAnyH_done (by kernel_rfl) ?_ _
          refine NoPanic.normal ?_
          clear hHeld
          obtain ⟨y3, hy3⟩ : ∃ y, y2 ++ num e.m 2 ++ c.more = y := ⟨_, rfl⟩
          obtain ⟨s3, hs3⟩ : ∃ z, ocat s2 (pbytes c.more 2 65535) = z := ⟨_, rfl⟩
          have hys : some y3 = s3 := by rw [← hs3, ← HW2.out.2.1, pbytes_ok (by have := HL.out.2.2; omega), ocat_some, ← hy3, List.append_assoc, HL.out.2.2]
          have hyl : y3.length ≤ 210100 := by rw [← hy3, List.length_append, List.length_append, num_len _ _ (by omega)]; have := HW2.out.2.2.2.2; have := HL.out.2.2; omega
          have HW3 := Lib.hid (And.intro (show Own wq3 Z (.slice Aq3 nq3 cq3) y3 by rw [← hy3]; exact HQ3.out.1) (And.intro hys (And.intro (HN3.out.2.2.1.trans HQ3.out.2) (And.intro (Nat.le_trans HN3.out.2.2.2 HQ3.out.2.size) hyl))))
          have HS3 := Lib.hid hs3
          clear hy3 hs3 hys hyl
          have hr1 : Rd wq3 A1 n1 c1 x1 := (HO1.out.2.rd.below H2.out.2.2).below (by have := HW3.out.2.2.1; rwa [← HC.out.2.2.2.2.1] at this)
          have hr2 : Rd wq3 A2 n2 c2 x2 := H2.out.2.1.rd.below (by have := HW3.out.2.2.1; rwa [← HC.out.2.2.2.2.1] at this)
          have Hr := Lib.hid (And.intro hr1 hr2)
          clear hr1 hr2
          have hz1 := pattrs_len HO1.out.1
          have hz2 := pattrs_len H2.out.1
          have HZ := Lib.hid (And.intro hz1 hz2)
          clear hz1 hz2
          go_wp2_with (at_builtin; first
            | (refine wp_app2 (.tmp 136) (.tmp 137) Z (.slice Aq3 nq3 cq3) y3 HW3.out.1 HW3.out.2.2.2.1 A1 n1 c1 x1 Hr.out.1 (by have := HZ.out.1; have := HW3.out.2.2.2.2; omega) rfl rfl rfl rfl ?_; intro A8 n8 c8 w8 hi8 hG; have H8 := Lib.hid hG; clear hG)
            | (refine wp_app2 (.tmp 138) (.tmp 139) Z (.slice A8 n8 c8) _ H8.out.own (Nat.le_trans HW3.out.2.2.2.1 H8.out.grown.size) A2 n2 c2 x2 (Hr.out.2.keep H8.out.below.size (fun ad had => H8.out.below.block _ (by have := H2.out.2.1.rd.lt ad had; have := HC.out.2.2.2.2.1; omega))) (by rw [List.length_append]; have := HZ.out; have := HW3.out.2.2.2.2; omega) rfl rfl rfl rfl ?_; intro A9 n9 c9 w9 hi9 hG; have H9 := Lib.hid hG; clear hG))
          have hbw : Below w.heap.size w w9 := by
            have h1 := HW3.out.2.2.1.trans (H8.out.below.trans H9.out.below)
            have h2 : w.heap.size ≤ Z := by rw [← HC.out.2.2.2.2.1]; have := H1.out.2.2.1.size; have := H2.out.2.2.size; omega
            exact (H1.out.2.2.1.trans (H2.out.2.2.mono H1.out.2.2.1.size)).trans (h1.mono h2)
          have hl9 : (y3 ++ x1 ++ x2).length ≤ 1000000000 := by rw [List.length_append, List.length_append]; have := HZ.out; have := HW3.out.2.2.2.2; omega
          have hall : some (y3 ++ x1 ++ x2) = callO c := by
            unfold callO
            rw [HS0.out, HS1.out, HS2.out, HS3.out, ← HW3.out.2.1, HO1.out.1, H2.out.1, ocat_some, ocat_some]
          have hfrm := rframe_any A9 n9 c9 _ w9 H9.out.own.rd hl9
          rw [hall, HRR.out.1] at hfrm
          have HFm := Lib.hid (And.intro hfrm hbw)
          clear hfrm hbw hl9 hall
          refine HFm.out.1.mono ?_
          rintro ef wf ⟨hbf, hres⟩
          have HBf := Lib.hid (HFm.out.2.trans (hbf.mono HFm.out.2.size))
          clear hbf
          rcases hres with ⟨hn, rfl⟩ | ⟨x, hx, Af, nf, cf, rfl, hOf⟩
          · have HN := Lib.hid hn
            clear hn
            go_wp2_with fail
            go_ret2
            exact ⟨HBf.out, .inl ⟨HN.out, rfl⟩⟩
          · have HN := Lib.hid (And.intro hx hOf)
            clear hx hOf
            go_wp2_with fail
            go_ret2
            exact ⟨HBf.out, .inr ⟨x, HN.out.1, Af, nf, cf, rfl, HN.out.2.mono HFm.out.2.size⟩⟩
end Go.Proofs.Ytmanpfenmamflaa
