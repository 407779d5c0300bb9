/-
  begun of the laws of rpc: one call there and back.
-/
import Derived.Test.YtmanpfenmamflaaRpcD0
import Derived.Lib.SlBytesConst
namespace Go.Proofs.Ytmanpfenmamflaa
open Go.RowKit
attribute [local go_sem] Oper.semAt_some

theorem neSeq2 (f : FuncId) (lb : Array Value) (w : World) : (binOp .eql 41 (.func (.func f) #[] lb) Value.nilFunc).run Try.prog w = .ok (.bool false) w := by kernel_rfl
set_option maxRecDepth 100000 in
set_option maxHeartbeats 4000000 in
theorem begun_any (w : World) : Calls Try.prog 7 #[] w fun e w' => e = .returned (.bool true) ∧ Below w.heap.size w w' := by
  obtain ⟨X, hX⟩ : ∃ X, X = w.heap.size := ⟨_, rfl⟩
  have HX := Lib.hid hX
  have kc := Lib.run_convert_bytes_const (P := Try.prog) w 22 5 #[.int .u8 97] 1 1 Try.underlying22 Try.underlying5
  refine calls_of_marks Try.func7 rfl ?_
  simp only [Try.ntmps7, List.size_toArray, List.length_cons, List.length_nil, Nat.reduceAdd, Nat.reduceSub, Array.replicate_succ, Array.replicate_zero, List.push_toArray, List.append_toArray, List.nil_append, List.cons_append]
  go_wp2_with fail
  clear kc
  obtain ⟨wA, hwA⟩ : ∃ wA, (w.alloc (.cells #[.int .u8 97] 5 (1, 2))).alloc (.cells #[.int .i64 9, .int .i64 1, .int .i64 0, .int .i64 0, .int .i64 0, .int .i64 0, .slice none 0 0, .slice (some ⟨w.heap.size, 0, none⟩) 1 1, .slice none 0 0, .slice none 0 0, .slice none 0 0] 27) = wA := ⟨_, rfl⟩
  have hrA : Rd wA (some ⟨X, 0, none⟩) 1 1 [97] := by
    rw [← hwA, hX]
    exact (Rd.of_blk (l := [97]) (fr := (1, 2)) (heap_alloc_new w _) (by unfold maxLen; decide)).below ((Below.refl _ _).alloc (Nat.le_refl _) _)
  have hbA : Below X w wA := by rw [← hwA, hX]; exact ((Below.refl _ _).alloc (Nat.le_refl _) _).alloc (by simp) _
  have hsA : wA.heap.size = X + 2 := by rw [← hwA, hX]; simp
  rw [hwA, ← hX]
  have HA := Lib.hid (And.intro hrA (And.intro hbA hsA))
  clear hwA hrA hbA hsA hX
  refine (call_o C0 zSl ⟨some ⟨X, 0, none⟩, 1, 1⟩ zSl zSl zSl wA ⟨RdB.nil _ _, RdB.ofRd HA.out.1, RdB.nil _ _, ⟨rfl, .inl rfl⟩, ⟨rfl, .inl rfl⟩, Nat.zero_le _, Nat.zero_le _⟩).mono ?_
  rintro e1 w1 ⟨hb1, hres⟩
  rw [f0_known] at hres
  rcases hres with ⟨hn, _⟩ | ⟨x, hx, A1, n1, c1, rfl, hO1⟩
  · cases hn
  injection hx with hx
  subst hx
  have hn1 : n1 = 36 := hO1.len
  subst hn1
  have H1 := Lib.hid (And.intro hb1 hO1)
  clear hb1 hO1
  go_wp2_with fail
  refine (next_any A1 36 c1 F0 w1 H1.out.2.rd (by decide)).mono ?_
  rintro e2 w2 ⟨A2, m2, c2, rfl, hO2, hb2⟩
  rw [nx_known.1] at hO2
  rw [nx_known.2.1, nx_known.2.2, show ((36 : Nat) : Int) = 36 from rfl]
  have H2 := Lib.hid (And.intro hb2 hO2)
  clear hb2 hO2
  go_wp2_with fail
  refine (readCall_any A2 m2 c2 B0 w2 H2.out.2.rd (by decide)).mono ?_
  rintro e3 w3 ⟨hb3, D, sp, sd, se, st, su, rfl, hI3, hD⟩
  rw [rc_known.1, if_pos rfl] at hD
  have hD1 : D.fn = 9 := by rw [hD]; exact rc_known.2.1
  have hD2 : D.data = [97] := by rw [hD]; exact rc_known.2.2
  rw [rc_known.1]
  unfold callV
  have H3 := Lib.hid (And.intro hb3 (And.intro hI3 (And.intro hD1 hD2)))
  clear hb3 hI3 hD1 hD2 hD
  go_wp2_with fail
  obtain ⟨w3', hw3'⟩ : ∃ w3', w3.alloc (.cells #[.int .i64 D.fn, .int .i64 D.ss, .int .i64 D.a, .int .i64 D.b, .int .i64 D.n, .int .i64 D.kd, .slice sp.A sp.m sp.c, .slice sd.A sd.m sd.c, .slice se.A se.m se.c, .slice st.A st.m st.c, .slice su.A su.m su.c] 27) = w3' := ⟨_, rfl⟩
  have hbY : Blk w3' w3.heap.size 27 #[.int .i64 D.fn, .int .i64 D.ss, .int .i64 D.a, .int .i64 D.b, .int .i64 D.n, .int .i64 D.kd, .slice sp.A sp.m sp.c, .slice sd.A sd.m sd.c, .slice se.A se.m se.c, .slice st.A st.m st.c, .slice su.A su.m su.c] := by rw [← hw3']; exact Blk.new _ _ _
  have hb3' : Below w3.heap.size w3 w3' := by rw [← hw3']; exact (Below.refl _ _).alloc (Nat.le_refl _) _
  have hz3' : w3'.heap.size = w3.heap.size + 1 := by rw [← hw3']; simp
  rw [hw3']
  obtain ⟨Y, hY⟩ : ∃ Y, Y = w3.heap.size := ⟨_, rfl⟩
  rw [← hY] at hbY hb3' hz3' ⊢
  have hd3 := H3.out.2.1.hd
  have H3b := Lib.hid (And.intro hbY (And.intro hb3' (And.intro hz3' (And.intro hY hd3))))
  clear hw3' hbY hb3' hz3' hY hd3
  go_wp2_with fail
  refine (reply_o R0 zSl zSl zSl w3' ⟨RdB.nil _ _, ⟨rfl, Nat.le_refl _, Nat.zero_le _, .inl rfl⟩, ⟨rfl, .inl rfl⟩, Nat.zero_le _⟩).mono ?_
  rintro e4 w4 ⟨hb4, hres⟩
  obtain ⟨fr, hfr, hfl⟩ := r0_known
  rw [hfr] at hres
  rcases hres with ⟨hn, _⟩ | ⟨x, hx, A4, n4, c4, rfl, hO4⟩
  · cases hn
  injection hx with hx
  subst hx
  have hn4 : (4 : Int) < n4 := by rw [hO4.len]; omega
  have hn4d : decide ((4 : Int) < n4) = true := decide_eq_true hn4
  have H4 := Lib.hid hb4
  clear hb4 hO4 hfr hfl
  go_wp2_with fail
  refine (bodies_any A1 36 c1 w4).mono ?_
  rintro e5 w5 ⟨rfl, hw5⟩
  have hb5 : Below w4.heap.size w4 w5 := by rw [← hw5]; exact (Below.refl _ _).alloc (Nat.le_refl _) _
  have hz5 : w5.heap.size = w4.heap.size + 1 := by rw [← hw5]; simp
  have hX5 : Blk w5 w4.heap.size 22 #[.slice A1 36 c1] := by rw [← hw5]; exact Blk.new _ _ _
  have H5 := Lib.hid (And.intro hb5 (And.intro hz5 hX5))
  clear hw5 hb5 hz5 hX5
  have kn := neSeq2
  go_wp2_with fail
  obtain ⟨w6, hw6⟩ : ∃ w6, w5.alloc (.cells #[.int .i64 0] 3) = w6 := ⟨_, rfl⟩
  rw [hw6]
  clear kn
  have hb6 : Below w5.heap.size w5 w6 := by rw [← hw6]; exact (Below.refl _ _).alloc (Nat.le_refl _) _
  have hk6 : Blk w6 w5.heap.size 3 #[.int .i64 0] := by rw [← hw6]; exact Blk.new _ _ _
  have hz6 : w6.heap.size = w5.heap.size + 1 := by rw [← hw6]; simp
  have hX6 := H5.out.2.2.below hb6
  have hsA := HA.out.2.2
  have hz1 := H1.out.1.size
  have hz2 := H2.out.1.size
  have hz3 := H3.out.1.size
  have hzY := H3b.out.2.2.2.1
  have hzY' := H3b.out.2.2.1
  have hz4 := H4.out.size
  have hz5 := H5.out.2.1
  have hB13 : Below w1.heap.size w1 w3' := (H2.out.1.trans (H3.out.1.mono hz2)).trans (H3b.out.2.1.mono (by omega))
  have hB16 : Below w1.heap.size w1 w6 := ((hB13.trans (H4.out.mono (by omega))).trans (H5.out.1.mono (by omega))).trans (hb6.mono (by omega))
  have hr6 : Rd w6 A1 36 c1 F0 := H1.out.2.rd.below hB16
  have hA6 : ∀ ad, A1 = some ad → ad.block < w6.heap.size := fun ad had => by have := H1.out.2.rd.lt ad had; omega
  have hY6 := ((H3b.out.1.below H4.out).below H5.out.1).below hb6
  have hd6 : RdB w6 w3.heap.size sd.A sd.m sd.c D.data := by
    refine H3b.out.2.2.2.2.old (((H3b.out.2.1.mono (by omega)).trans (H4.out.mono (by omega))).trans (H5.out.1.mono (by omega)) |>.trans (hb6.mono (by omega)))
  have hBX : Below X w w6 := (HA.out.2.1.trans (H1.out.1.mono (by omega))).trans (hB16.mono (by omega))
  have H6 := Lib.hid (And.intro hX6 (And.intro hr6 (And.intro hA6 (And.intro hY6 (And.intro hd6 (And.intro hBX hk6))))))
  clear hb6 hX6 hr6 hA6 hY6 hd6 hBX hk6 hw6 hB13 hB16
  obtain ⟨kb, hkb⟩ : ∃ kb, w5.heap.size = kb := ⟨_, rfl⟩
  rw [hkb] at H6 hz6 hz5 ⊢
  have hfacts : X < w4.heap.size ∧ Y < w4.heap.size ∧ w3.heap.size ≤ w4.heap.size ∧ w1.heap.size ≤ w4.heap.size ∧ w4.heap.size < kb ∧ kb < w6.heap.size := by omega
  have HFx := Lib.hid hfacts
  obtain ⟨hf1, hf2, hf3, hf6, hf4, hf5⟩ := hfacts
  clear hsA hz1 hz2 hz3 hzY hzY' hz4 hz5 hz6 hkb
  have hM0 : bodMine w4.heap.size A1 36 c1 F0 w6.heap.size 0 w6 := ⟨H6.out.1, H6.out.2.1, Nat.le_refl _, by omega, H6.out.2.2.1⟩
  have HM0 := Lib.hid hM0
  clear hM0
  refine wp_range0 (gf := 37) (lb := #[.pointer (some ⟨w4.heap.size, 0, none⟩)]) (T := []) rfl (fun _ _ => by kernel_rfl)
    (bodies_iter w4.heap.size A1 36 c1 1 w6.heap.size F0 fr_known (by decide)) (fun k args W h => by obtain ⟨A, m, cq, rfl, _⟩ := h; rfl) (by simp)
    (fun k W => Blk W kb 3 #[.int .i64 (k : Int)] ∧ Turn [kb] w6 W)
    (fun _ _ _ => False)
    ?hI ?hIx ?hM ?hA ⟨H6.out.2.2.2.2.2.2, Turn.refl _ _⟩ ?hM0 ?hM1 ?hbody ?hdone ?hstop
  case hI =>
    rintro k W1 W2 S ⟨h1, h2⟩ ht hS
    have hS' : ∀ t ∈ S, w6.heap.size < t := by
      intro t h
      rcases hS t h with h | ⟨h, _⟩
      · cases h
      · omega
    exact ⟨h1.turn ht (fun h => by have := hS' _ h; omega), h2.trans ht (fun x hx => .inr (by have := hS' _ hx; omega))⟩
  case hIx => rintro c k W1 W2 S h; exact h.elim
  case hM =>
    rintro k W1 W2 hM ⟨r, hr⟩ ht
    exact hM.turn ht (by simp) k
  case hA =>
    rintro k args W1 W2 ⟨A, m, cq, rfl, hO⟩ ⟨r, hr⟩ ht
    exact ⟨A, m, cq, rfl, hO.turn ht (fun g hg hm => by simp at hm; subst hm; exact hO.notin (noRow_loop hr) hg)⟩
  case hM0 => exact HM0.out
  case hM1 =>
    intro W ht
    exact bodMine.turn (k := 0) HM0.out ht (by simp) 0
  case hbody =>
    rintro l' k args W hkN hlt ⟨h1, h2⟩ hMi ⟨A', m', cq', rfl, hO⟩
    have k0 := h1.cell 0
    have f0 := h1.frozen 0
    simp only [List.getElem?_toArray, List.getElem?_cons_zero] at k0
    have g1 : IntKind.i64.wrap ((k : Int) + 1) = (k : Int) + 1 := IntWalk.i64_in _ (by omega)
    have hb := Lib.hid (And.intro h1 (And.intro h2 hMi))
    clear h1 h2 hMi hO
    gi_wp2
    have hT := (Turn.refl [kb] W).setCell (p := ⟨kb, 0, none⟩) (.inl (by simp)) (.int .i64 ((k : Int) + 1))
    refine ⟨⟨[kb], hT, by simp; omega, by simp; omega⟩, ⟨?_, hb.out.2.1.trans hT (fun x hx => .inl hx)⟩, ?_⟩
    · have := hb.out.1.set_ 0 (.int .i64 ((k : Int) + 1))
      simpa using this
    · obtain ⟨m1, m2, m3, m4, m5⟩ := hb.out.2.2
      have hAk : ∀ ad, A1 = some ad → ad.block ≠ kb := fun ad had e => by
        have := H1.out.2.rd.lt ad had
        omega
      exact ⟨m1.turn hT (by simp; omega), m2.turn hT (fun ad had hm => hAk ad had (by simpa using hm)), Nat.le_trans m3 hT.size, m4, m5⟩
  case hdone =>
    rintro W hlt ⟨h1, h2⟩ hKd
    have k0 := h1.cell 0
    simp only [List.getElem?_toArray, List.getElem?_cons_zero] at k0
    have hYW := H6.out.2.2.2.1.turn h2 (by simp; omega)
    have q0 := hYW.cell 0
    have q7 := hYW.cell 7
    simp only [List.getElem?_toArray, List.getElem?_cons_succ, List.getElem?_cons_zero] at q0 q7
    rw [H3.out.2.2.1] at q0
    have hdW : RdB W w3.heap.size sd.A sd.m sd.c D.data := H6.out.2.2.2.2.1.old (below_turn (Below.refl _ _) h2 (by simp; omega) (by omega))
    have hstr := hdW.str
    rw [H3.out.2.2.2] at hstr
    have hBW := below_turn H6.out.2.2.2.2.2.1 h2 (by simp; omega) (by omega)
    have HW := Lib.hid hBW
    clear hYW hdW hBW h1 h2
    go_wp2_with fail
    have hT9 : Turn [w6.heap.size] W (W.putObj w6.heap.size (.deferred none)) := (Turn.refl _ W).putObj (.inl (by simp)) _
    refine ret_mark (v := .bool true) rfl hKd (fun W' => by simp [results, Try.results7, go_sem]) ?_
    exact ⟨rfl, by rw [← HX.out]; exact below_turn HW.out hT9 (by simp; omega) (by omega)⟩
  case hstop => rintro c k W hlt hkN h; exact h.elim
end Go.Proofs.Ytmanpfenmamflaa
