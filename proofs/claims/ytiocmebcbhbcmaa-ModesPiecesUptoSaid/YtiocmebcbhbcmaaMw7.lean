/-
  'baileylaw6.ModesStream' returns true: in whatever parts bytes come, each comes out as soon as it can. No condition.
-/
import Derived.Test.YtiocmebcbhbcmaaZzMw6
import Derived.Lib.SlBytesConst
namespace Go.Proofs.Ytiocmebcbhbcmaa
set_option maxRecDepth 100000
open Go.RowKit

theorem eqNilS (w : World) : (binOp .eql 31 (.pointer none) (.pointer none)).run Try.prog w = .ok (.bool true) w := by kernel_rfl
theorem nePtrS (a : Addr) (w : World) : (binOp .eql 31 (.pointer (some a)) (.pointer none)).run Try.prog w = .ok (.bool false) w := by kernel_rfl
theorem front_mono (mo : Nat) (enc : Bool) (k p al pl : List UInt8) (hk : keyOk k) (hp : parOk mo p) (h1 : 1 ≤ mo) (h5 : mo ≤ 5) : ((PSof mo enc k p).front al).length ≤ ((PSof mo enc k p).front (al ++ pl)).length := by
  rw [front_len mo enc k p al hk hp h1 h5, front_len mo enc k p (al ++ pl) hk hp h1 h5, List.length_append]
  unfold readyF
  split
  · omega
  · split
    · split <;> omega
    · split <;> omega
set_option maxHeartbeats 8000000 in
theorem modesStream_bad (mode : Int) (enc : Bool) (A P B : Option Addr) (ma ca mp cp m cb : Nat) (k p : List UInt8) (w : World) (hk : Rd w A ma ca k) (hp : Rd w P mp cp p) (hmay : mayF mode (k.take 40) (p.take 300) ≠ 0) :
    Calls Try.prog 4 #[.int .i64 mode, .bool enc, .slice A ma ca, .slice P mp cp, .slice B m cb] w (LawRes w) := by
  have hbeg := mbegun_any w
  have hk2 := hk.short (n := 40)
  have hp2 := hp.short (n := 300)
  have HH := Lib.hid (And.intro hbeg (And.intro hk hp))
  obtain ⟨m0, hm0⟩ : ∃ m, min ma 40 = m := ⟨_, rfl⟩
  obtain ⟨m1, hm1⟩ : ∃ m, min mp 300 = m := ⟨_, rfl⟩
  obtain ⟨k1, hk1⟩ : ∃ k1, k.take 40 = k1 := ⟨_, rfl⟩
  obtain ⟨p1, hp1⟩ : ∃ p1, p.take 300 = p1 := ⟨_, rfl⟩
  rw [hm0, hk1] at hk2
  rw [hm1, hp1] at hp2
  rw [hk1, hp1] at hmay
  have hm1b : m1 ≤ 300 := by omega
  have HM := Lib.hid (And.intro hm0 hm1)
  have HK := Lib.hid (And.intro hk2 hp2)
  clear hbeg hk hp hk2 hp2 hm0 hm1 hk1 hp1
  go_enter Try.func4, Try.ntmps4
  go_wp2_with fail
  refine HH.out.1.mono ?_
  rintro e w1 ⟨rfl, hO1⟩
  have H1 := Lib.hid hO1
  clear hO1
  go_wp2_with fail
  refine (short_any A ma ca 40 k w1 (HH.out.2.1.below H1.out) (by omega)).mono ?_
  rintro e w2 ⟨rfl, rfl⟩
  go_wp2_with fail
  refine (short_any P mp cp 300 p w1 (HH.out.2.2.below H1.out) (by omega)).mono ?_
  rintro e w2 ⟨rfl, rfl⟩
  rw [HM.out.1, HM.out.2]
  have hen := eqNilS
  obtain ⟨v4, hv4⟩ : ∃ v, mayF mode k1 p1 = v := ⟨_, rfl⟩
  have HMay := Lib.hid hmay
  rw [hv4] at hmay
  have hvb : (v4 != 0) = true := by simpa using hmay
  have HV := Lib.hid hv4
  clear hv4 hmay
  go_wp2_with fail
  refine (new_bad mode enc A P m0 ca m1 cp k1 p1 w1 (HK.out.1.below H1.out) (HK.out.2.below H1.out) (by omega) HMay.out).mono ?_
  rw [HV.out]
  rintro e w2 ⟨rfl, hO2⟩
  have H2 := Lib.hid (H1.out.trans hO2)
  clear hO2
  go_wp2_with fail
  refine (rmay_any mode A P m0 ca m1 cp k1 p1 w2 (HK.out.1.below H2.out) (HK.out.2.below H2.out) (by omega)).mono ?_
  rintro e w6 ⟨rfl, rfl⟩
  rw [HV.out]
  go_wp2_with fail
  go_ret
  exact ⟨rfl, H2.out⟩
set_option maxHeartbeats 16000000 in
theorem modesStream_good (mo : Nat) (enc : Bool) (A P B : Option Addr) (ma ca mp cp m cb : Nat) (k p : List UInt8) (ls : List (List UInt8)) (w : World) (hk : Rd w A ma ca k) (hp : Rd w P mp cp p) (hb : RowsAt w B m ls) (hm : m ≤ maxLen) (hmay : mayF (mo : Int) (k.take 40) (p.take 300) = 0) (h1 : 1 ≤ mo) (h5 : mo ≤ 5) (hko : keyOk (k.take 40)) (hpo : parOk mo (p.take 300)) :
    Calls Try.prog 4 #[.int .i64 (mo : Int), .bool enc, .slice A ma ca, .slice P mp cp, .slice B m cb] w (LawRes w) := by
  have hbeg := mbegun_any w
  have hk2 := hk.short (n := 40)
  have hp2 := hp.short (n := 300)
  have HH := Lib.hid (And.intro hbeg (And.intro hk hp))
  obtain ⟨m0, hm0⟩ : ∃ m, min ma 40 = m := ⟨_, rfl⟩
  obtain ⟨m1, hm1⟩ : ∃ m, min mp 300 = m := ⟨_, rfl⟩
  obtain ⟨k1, hk1⟩ : ∃ k1, k.take 40 = k1 := ⟨_, rfl⟩
  obtain ⟨p1, hp1⟩ : ∃ p1, p.take 300 = p1 := ⟨_, rfl⟩
  rw [hm0, hk1] at hk2
  rw [hm1, hp1] at hp2
  rw [hk1, hp1] at hmay
  rw [hk1] at hko
  rw [hp1] at hpo
  have hm1b : m1 ≤ 300 := by omega
  have HM := Lib.hid (And.intro hm0 hm1)
  have HK := Lib.hid (And.intro hk2 hp2)
  clear hbeg hk hp hk2 hp2 hm0 hm1 hk1 hp1
  go_enter Try.func4, Try.ntmps4
  go_wp2_with fail
  refine HH.out.1.mono ?_
  rintro e w1 ⟨rfl, hO1⟩
  have H1 := Lib.hid hO1
  clear hO1
  go_wp2_with fail
  refine (short_any A ma ca 40 k w1 (HH.out.2.1.below H1.out) (by omega)).mono ?_
  rintro e w2 ⟨rfl, rfl⟩
  go_wp2_with fail
  refine (short_any P mp cp 300 p w1 (HH.out.2.2.below H1.out) (by omega)).mono ?_
  rintro e w2 ⟨rfl, rfl⟩
  rw [HM.out.1, HM.out.2]
  have hne := nePtrS
  have kc := fun (w : World) (C : Array Value) (n c : Nat) => Lib.run_convert_bytes_const (P := Try.prog) w 22 5 C n c Try.underlying22 Try.underlying5
  have hmi : (m : Int) ≤ 9223372036854775807 := by unfold maxLen at hm; omega
  have hko1 := hko
  have hpo1 := hpo
  have hR : (∀ (W : World) (A' : Option Addr) (n' c' : Nat) (al : List UInt8), Old w1 W → Rd W A' n' c' al → n' ≤ 40000 → Calls Try.prog 18 #[.int .i64 (mo : Int), .bool enc, .slice A m0 ca, .slice P m1 cp, .slice A' n' c'] W (FrRes W ((PSof mo enc k1 p1).front al))) ∧
      (∀ (W : World) (A' : Option Addr) (n' c' : Nat) (al : List UInt8), Old w1 W → Rd W A' n' c' al → n' ≤ 40000 → ∃ R : List UInt8 × Int, Calls Try.prog 15 #[.int .i64 (mo : Int), .bool enc, .slice A m0 ca, .slice P m1 cp, .slice A' n' c'] W (RvNew W R) ∧ ((PSof mo enc k1 p1).fin al).2 = R.2 ∧ (R.2 = 0 → R.1 = (PSof mo enc k1 p1).front al ++ ((PSof mo enc k1 p1).fin al).1)) ∧
      (∀ (W : World) (n' : Nat), n' ≤ 40000 → Calls Try.prog 20 #[.int .i64 (mo : Int), .bool enc, .int .i64 (n' : Int)] W fun e w' => e = .returned (.int .i64 ((PSof mo enc k1 p1).waits n' : Int)) ∧ W = w') := by
    refine ⟨fun W A' n' c' al hO hr hn => rfront_any mo enc A P A' m0 ca m1 cp n' c' k1 p1 al W ((HK.out.1.below H1.out).below hO) ((HK.out.2.below H1.out).below hO) hr hko hpo h1 h5 (by omega) hn, fun W A' n' c' al hO hr hn => ?_, fun W n' hn => rholds_any (PSof mo enc k1 p1) n' W ⟨h1, h5⟩ (by omega)⟩
    obtain ⟨R, e1, e2, e3⟩ := fin_ref mo enc k1 p1 al hko hpo h1 h5
    refine ⟨R, ?_, e2, e3⟩
    rw [← e1]
    exact ralln_any mo enc A P A' m0 ca m1 cp n' c' k1 p1 al W ((HK.out.1.below H1.out).below hO) ((HK.out.2.below H1.out).below hO) hr hko hpo h1 h5 (by omega) hn
  have hmono : ∀ al pl, ((PSof mo enc k1 p1).front al).length ≤ ((PSof mo enc k1 p1).front (al ++ pl)).length := fun al pl => front_mono mo enc k1 p1 al pl hko hpo h1 h5
  have hc0 : (PSof mo enc k1 p1).mode = 4 ∨ (PSof mo enc k1 p1).mode = 5 → (PSof mo enc k1 p1).c0.length = 16 := fun h => (PSof mo enc k1 p1).c0_len hpo h
  have hdl : (PSof mo enc k1 p1).data.length ≤ 100000 := by
    have hl := HK.out.2.1
    show (p1.drop _).length ≤ 100000
    rw [List.length_drop]
    omega
  have hnew := new_good mo enc A P m0 ca m1 cp k1 p1 w1 (HK.out.1.below H1.out) (HK.out.2.below H1.out) (by omega) h1 h5 hko hpo
  have hfn := fun al => fin_nil (PSof mo enc k1 p1) al
  obtain ⟨s, hs⟩ : ∃ s, PSof mo enc k1 p1 = s := ⟨_, rfl⟩
  simp only [hs] at hR hmono hc0 hdl hnew hfn
  have HR := Lib.hid hR
  have HM2 := Lib.hid (And.intro hmono (And.intro hc0 (And.intro hdl (And.intro hnew (And.intro hfn (And.intro hmay hb))))))
  clear hR hmono hc0 hdl hnew hs hko1 hpo1 hfn hko hpo hmay hb hm
  go_wp2_with fail
  refine HM2.out.2.2.2.1.mono ?_
  rintro e w2 ⟨d, rfl, hN⟩
  obtain ⟨G0, hM0⟩ := MsI.start hN
  have H2 := Lib.hid hM0
  clear hN hM0
  go_wp2_with fail
  refine (rmay_any (mo : Int) A P m0 ca m1 cp k1 p1 w2 ((HK.out.1.below H1.out).below H2.out.old) ((HK.out.2.below H1.out).below H2.out.old) (by omega)).mono ?_
  rintro e w6 ⟨rfl, rfl⟩
  rw [HM2.out.2.2.2.2.2.1]
  go_wp2_with fail
  go_loopw [15, 16, 17] (fun v kn i wr => ∃ (j n' c' kf : Nat) (A' : Option Addr) (al : List UInt8) (G : List Nat), j ≤ 10 ∧ j ≤ m ∧ i = .int .i64 (j : Nat) ∧ v = .slice A' n' c' ∧ kn = .int .i64 (kf : Nat) ∧ MsI w1 wr d s A' n' c' al G j kf) (fun _ _ i _ => 10 - (intOf i).toNat)
  case atStart => exact ⟨0, 0, 0, 0, none, [], G0, by omega, by omega, rfl, rfl, rfl, H2.out⟩
  case round =>
    obtain ⟨j, n1, c1, kf, A1, al, G, hj, hjm, rfl, rfl, rfl, hI⟩ := hrel
    have HI := Lib.hid hI
    have hal := hI.len
    clear hI
    by_cases hlt : j < m ∧ j < 10
    · obtain ⟨hl1, hl2⟩ := hlt
      have hi1 : (j : Int) < m := by omega
      have hi1d : decide ((j : Int) < m) = true := decide_eq_true hi1
      have hi2 : (j : Int) < 10 := by omega
      have hi2d : decide ((j : Int) < 10) = true := decide_eq_true hi2
      obtain ⟨hpl, hz0 | ⟨b0, off0, rfl, hb0, hrow⟩⟩ := HM2.out.2.2.2.2.2.2
      · omega
      obtain ⟨l, hl⟩ : ∃ l, ls[j]? = some l := ⟨_, List.getElem?_eq_getElem (by omega)⟩
      obtain ⟨Aj, mj, cj, hcj, hej⟩ := hrow j l hl
      have hold : Old w wr := Old.trans H1.out HI.out.old
      have hcj' : wr.cell? ⟨b0, off0 + j, none⟩ = some (.slice Aj mj cj) := (Below.cell (p := ⟨b0, off0 + j, none⟩) hold hb0).trans hcj
      have HE := Lib.hid (hej.below hold)
      have hC : Calls Try.prog 12 #[.slice Aj mj cj, .int .i64 40] wr fun e w' => e = .returned (.slice Aj (min mj 40) cj) ∧ wr = w' := short_E Aj mj cj 40 l wr HE.out (by omega)
      have HC := Lib.hid hC
      have hoj : off0 + j < off0 + m := by omega
      obtain ⟨pl, hple⟩ : ∃ pl, l.take 40 = pl := ⟨_, rfl⟩
      have hpl40 : pl.length ≤ 40 := by rw [← hple]; exact List.length_take_le _ _
      have HPL := Lib.hid (And.intro hple hpl40)
      clear hrow hej hcj hl1 hl2 hC hold hple hl hpl
      go_wp2_with (first
        | (go_at_call 12; have hc := HC.out; (with_reducible refine hc.mono ?_); clear hc; rintro e w' ⟨rfl, rfl⟩)
        | (at_builtin; have hOp := hGp.own; have hbp := hGp.below; go_must (refine wp_app2 (.tmp 80) (.tmp 81) w1.heap.size (.slice A1 n1 c1) al (HI.out.own.below hbp) (Nat.le_trans HI.out.old.size hbp.size) Ap np cp _ hOp.rd (by have h3 := HPL.out.2; rw [List.nil_append]; omega) rfl rfl rfl rfl ?_; intro Aa na ca w3 hna hGa))
        | (at_builtin; go_must (refine wp_app2E (.const (.slice none 0 0)) (.tmp 78) wr.heap.size (.slice none 0 0) [] (Own.nil _ _) (Nat.le_refl _) Aj (min mj 40) cj pl (by have := HE.out.short (n := 40); rwa [HPL.out.1] at this) (by have h3 := HPL.out.2; simp only [List.length_nil]; omega) rfl rfl rfl rfl ?_; intro Ap np cp w2 hnp hGp)))
      obtain ⟨u1, u2, u3, u4, u5, u6, u7, u8, u9⟩ := ms_upd HI.out hGp hGa
      have hU := update_any G d s al Ap np cp pl w3 u1 HM2.out.2.1 u2.rd u3 u4 (by omega)
      have HG := Lib.hid (And.intro hGp hGa)
      have hnp40 : np ≤ 40 := by omega
      have hnaL : na = (al ++ pl).length := u5.len
      have hna3 : na ≤ 40000 := by rw [hnaL, List.length_append]; omega
      have HNA := Lib.hid hnaL
      clear u1 u2 u3 u4 u5 u6 u7 u8 u9 hGp hGa hOp hbp hnaL hcj' hoj HE HC hna hnp
      refine hU.mono ?_
      rintro e w4 ⟨Ao, no, co, G', rfl, hO4, hS4, hT4, hG1, hG2, hng, hno⟩
      obtain ⟨hp4, hnx⟩ := ms_next HI.out HG.out.1 HG.out.2 hpl40 hO4 hS4 hT4 hG1 hG2 hng
      rw [HI.out.kf] at hnx
      have H4 := Lib.hid (And.intro hp4 hnx)
      clear hO4 hS4 hT4 hG1 hG2 hng hno hp4 hnx hU HG
      go_wp2_with fail
      go_loopw [20] (fun i wz => ∃ (t : Nat) (q : List UInt8), t ≤ np ∧ i = .int .i64 (t : Nat) ∧ q.length = np ∧ Own wz wr.heap.size (.slice Ap np cp) q ∧ Turn (Value.slice Ap np cp).ownBlock.toList w4 wz) (fun i _ => np - (intOf i).toNat)
      case atStart => exact ⟨0, _, by omega, rfl, H4.out.1.len.symm, H4.out.1, Turn.refl _ _⟩
      case round =>
        obtain ⟨t, q, ht, rfl, hql, hOq, hTq⟩ := hrel
        rcases Nat.lt_or_ge t np with hlt | hge
        · have hti : (t : Int) < np := by omega
          have htd : decide ((t : Int) < np) = true := decide_eq_true hti
          have hn0 : (Value.slice Ap np cp) ≠ .slice none 0 0 := by intro e; injection e with _ e2 _; omega
          obtain ⟨g, cg, hf⟩ := hOq.form hn0
          injection hf with hf1 hf2 hf3
          subst hf1
          have hfz := hOq.frozen t
          obtain ⟨qt, hqt⟩ : ∃ qt, q[t]? = some qt := ⟨_, List.getElem?_eq_getElem (by omega)⟩
          have hqc := hOq.cell t qt hqt
          clear hqt
          unfold B at hqc
          have Hq := Lib.hid (And.intro hOq (And.intro hTq (And.intro hlt hql)))
          clear hOq hTq hql hf2 hf3 hn0 hlt ht
          go_wp2_with fail
          obtain ⟨hOq, hTq, hlt, hql⟩ := Hq.out
          refine ⟨⟨t + 1, q.set t 7, hlt, by go_num, by rw [List.length_set]; exact hql, hOq.set_ t 7 hlt, hTq.setCell (.inl (by simp [Value.ownBlock])) _⟩, by simp [intOf]; omega⟩
        · have hti : ¬ ((t : Int) < np) := by omega
          have htd : decide ((t : Int) < np) = false := decide_eq_false hti
          obtain ⟨hM5, hO5⟩ := H4.out.2 wr hTq
          have H5 := Lib.hid (And.intro hM5 hO5)
          clear hM5 hO5 hOq hTq hql
          go_wp2_with fail
          refine (HR.out.1 wr Aa na ca (al ++ pl) H5.out.1.old H5.out.1.own.rd hna3).mono ?_
          rintro e w6 ⟨A6, n6, c6, rfl, hR6, hB6⟩
          have hM6 := H5.out.1.below hB6
          have hn6 := hR6.1
          rw [← hn6] at hM6
          have hmn := HM2.out.1 al pl
          rw [HI.out.kf, ← hn6] at hmn
          obtain ⟨A7, n7, c7, hn7, hS7, hR7, _⟩ := hR6.cut_ex2 (k := kf) hmn
          clear hn7
          have hO6 := (H5.out.2.below hB6).rd
          have hR72 := hR7
          have hc6 := hR6.2.1
          have H6 := Lib.hid (And.intro hM6 (And.intro hO6 hR7))
          have hnal := HNA.out
          have HL := Lib.hid hnal
          clear hM6 hO6 hR72 hR6 hB6 hn6 hnal
          go_wp2_with fail
          refine region_old (by kernel_rfl) (fun wd hHeld hSz => ?_)
          have HSz := Lib.hid hSz
          clear hSz
          refine takeL (i := 0) (v := ?_) rfl (by kernel_rfl) (by kernel_rfl) (by kernel_rfl) (fun _ _ _ h => h) (Or.inl ⟨by rfl, ?_⟩) hHeld ?_
          rotate_left
          focus (intro wq hSw; clear hSw; go_simp; try with_reducible rfl)
          try simp only [Act.put, List.setIfInBounds_toArray, List.set_cons_zero, List.set_cons_succ]
          refine takeL (i := 1) (v := ?_) rfl (by kernel_rfl) (by kernel_rfl) (by kernel_rfl) (fun _ _ _ h => h) (Or.inl ⟨by rfl, ?_⟩) hHeld ?_
          rotate_left
          focus (intro wq hSw; have hRun := H6.out.2.1.str_below hSw; clear hSw; go_simp; try with_reducible rfl)
          try simp only [Act.put, List.setIfInBounds_toArray, List.set_cons_zero, List.set_cons_succ]
          refine takeL (i := 2) (v := ?_) rfl (by kernel_rfl) (by kernel_rfl) (by kernel_rfl) (fun _ _ _ h => h) (Or.inl ⟨by rfl, ?_⟩) hHeld ?_
          rotate_left
          focus (intro wq hSw; clear hSw; go_simp; try with_reducible rfl)
          try simp only [Act.put, List.setIfInBounds_toArray, List.set_cons_zero, List.set_cons_succ]
          refine takeL (i := 3) (v := ?_) rfl (by kernel_rfl) (by kernel_rfl) (by kernel_rfl) (fun _ _ _ h => h) (Or.inl ⟨by rfl, ?_⟩) hHeld ?_
          rotate_left
          focus (intro wq hSw; clear hSw; go_simp; try with_reducible rfl)
          try simp only [Act.put, List.setIfInBounds_toArray, List.set_cons_zero, List.set_cons_succ]
          refine takeL (i := 4) (v := ?_) rfl (by kernel_rfl) (by kernel_rfl) (by kernel_rfl) (fun _ _ _ h => h) (Or.inl ⟨by rfl, ?_⟩) hHeld ?_
          rotate_left
          focus (intro wq hSw; clear hSw; go_simp; try with_reducible rfl)
          try simp only [Act.put, List.setIfInBounds_toArray, List.set_cons_zero, List.set_cons_succ]
          refine takeL (i := 5) (v := ?_) rfl (by kernel_rfl) (by kernel_rfl) (by kernel_rfl) (fun _ _ _ h => h) (Or.inl ⟨by rfl, ?_⟩) hHeld ?_
          rotate_left
          focus (intro wq hSw; have hRun := hR7.str_below hSw; clear hSw; go_simp; try with_reducible rfl)
          try simp only [Act.put, List.setIfInBounds_toArray, List.set_cons_zero, List.set_cons_succ]
          refine takeL (i := 6) (v := ?_) rfl (by kernel_rfl) (by kernel_rfl) (by kernel_rfl) (fun _ _ _ h => h) (Or.inl ⟨by rfl, ?_⟩) hHeld ?_
          rotate_left
          focus (intro wq hSw; clear hSw; go_simp; try with_reducible rfl)
          try simp only [Act.put, List.setIfInBounds_toArray, List.set_cons_zero, List.set_cons_succ]
          refine takeL (i := 7) (v := ?_) rfl (by kernel_rfl) (by kernel_rfl) (by kernel_rfl) (fun _ _ _ h => h) (Or.inl ⟨by rfl, ?_⟩) hHeld ?_
          rotate_left
          focus (intro wq hSw; clear hSw; go_simp; try with_reducible rfl)
          try simp only [Act.put, List.setIfInBounds_toArray, List.set_cons_zero, List.set_cons_succ]
          refine takeL (i := 8) (v := ?_) rfl (by kernel_rfl) (by kernel_rfl) (by kernel_rfl) (fun _ _ _ h => h) (Or.inl ⟨by rfl, ?_⟩) hHeld ?_
          rotate_left
          focus (intro wq hSw; clear hSw; go_simp; try with_reducible rfl)
          try simp only [Act.put, List.setIfInBounds_toArray, List.set_cons_zero, List.set_cons_succ]
          refine takeL (i := 10) (v := ?_) rfl (by kernel_rfl) (by kernel_rfl) (by kernel_rfl) (fun _ _ _ h => h) (Or.inl ⟨by rfl, ?_⟩) hHeld ?_
          rotate_left
          focus (intro wq hSw; clear hSw; go_simp; try with_reducible rfl)
          try simp only [Act.put, List.setIfInBounds_toArray, List.set_cons_zero, List.set_cons_succ]
          refine takeL (i := 11) (v := ?_) rfl (by kernel_rfl) (by kernel_rfl) (by kernel_rfl) (fun _ _ _ h => h) (Or.inl ⟨by rfl, ?_⟩) hHeld ?_
          rotate_left
          focus (intro wq hSw; clear hSw; go_simp; try with_reducible rfl)
          try simp only [Act.put, List.setIfInBounds_toArray, List.set_cons_zero, List.set_cons_succ]
          refine takeL (i := 12) (v := ?_) rfl (by kernel_rfl) (by kernel_rfl) (by kernel_rfl) (fun _ _ _ h => h) (Or.inl ⟨by rfl, ?_⟩) hHeld ?_
          rotate_left
          focus (intro wq hSw; clear hSw; go_simp; try with_reducible rfl)
          try simp only [Act.put, List.setIfInBounds_toArray, List.set_cons_zero, List.set_cons_succ]
          refine takeL (i := 13) (v := ?_) rfl (by kernel_rfl) (by kernel_rfl) (by kernel_rfl) (fun _ _ _ h => h) (Or.inl ⟨by rfl, ?_⟩) hHeld ?_
          rotate_left
          focus (intro wq hSw; clear hSw; go_simp; try with_reducible rfl)
          try simp only [Act.put, List.setIfInBounds_toArray, List.set_cons_zero, List.set_cons_succ]
          refine wpAnyH_ready (rs := [9]) (by kernel_rfl) (by simp) ?_
          refine consL rfl (fun K hK => ?_) AllReadyH.nil
          go_simp
          refine (holds_any G' d s (al ++ pl) _ ((H6.out.1.below hHeld).str)).mono ?_
          rw [← HNA.out]
          rintro e w7 ⟨rfl, rfl⟩
          refine hK.out _ _ hHeld (fun hHeld => ?_)
          clear hK K
          try simp only [Act.put, List.setIfInBounds_toArray, List.set_cons_zero, List.set_cons_succ]
          refine wpAnyH_ready (rs := [14]) (by kernel_rfl) (by simp) ?_
          refine consL rfl (fun K hK => ?_) AllReadyH.nil
          go_simp
          refine (HR.out.2.2 _ na hna3).mono ?_
          rintro e w7 ⟨rfl, rfl⟩
          refine hK.out _ _ hHeld (fun hHeld => ?_)
          clear hK K
          try simp only [Act.put, List.setIfInBounds_toArray, List.set_cons_zero, List.set_cons_succ]
          refine takeL (i := 15) (v := ?_) rfl (by kernel_rfl) (by kernel_rfl) (by kernel_rfl) (fun _ _ _ h => h) (Or.inl ⟨by rfl, ?_⟩) hHeld ?_
          rotate_left
          focus (intro wq hSw; clear hSw; go_simp; try with_reducible rfl)
          try simp only [Act.put, List.setIfInBounds_toArray, List.set_cons_zero, List.set_cons_succ]
          refine takeL (i := 16) (v := ?_) rfl (by kernel_rfl) (by kernel_rfl) (by kernel_rfl) (fun _ _ _ h => h) (Or.inl ⟨by rfl, ?_⟩) hHeld ?_
          rotate_left
          focus (intro wq hSw; clear hSw; go_simp; try with_reducible rfl)
          try simp only [Act.put, List.setIfInBounds_toArray, List.set_cons_zero, List.set_cons_succ]
          refine wpAnyH_done (by kernel_rfl) ?_ _
          refine NoPanic.normal ?_
          simp only [Exit.then]
          have HM7 := Lib.hid (H6.out.1.below hHeld)
          clear hHeld
          go_wp2_with fail
          exact ⟨⟨j + 1, na, ca, n6, Aa, al ++ pl, G', by omega, by omega, by go_num, rfl, rfl, HM7.out⟩, by simp [intOf]; omega⟩
    · have hlt' : ((j : Int) < m ∧ ¬ ((j : Int) < 10)) ∨ ¬ ((j : Int) < m) := by omega
      obtain ⟨R, hRa, hR2, hR3⟩ := HR.out.2.1 wr A1 n1 c1 al HI.out.old HI.out.own.rd (by rw [HI.out.own.len]; omega)
      obtain ⟨W5, v5⟩ := R
      simp only at hR2 hR3
      have HRR := Lib.hid (And.intro hRa (And.intro hR2 hR3))
      have hal4 : al.length ≤ 100000 := by omega
      clear hlt hj hjm hRa hR2 hR3 hal
      rcases hlt' with ⟨hx1, hx2⟩ | hx1
      all_goals
        go_wp2_with fail
        refine HRR.out.1.mono ?_
        rintro e w2 ⟨A2, n2, c2, rfl, hR2, hA2, hB2⟩
        have hI2 := HI.out.below hB2
        have hF := final_any G d s al w2 hI2.str HM2.out.2.1 HM2.out.2.2.1 hal4
        rw [show s.fin al = ((s.fin al).1, v5) from Prod.ext rfl HRR.out.2.1] at hF
        have hA2G : ∀ ad, A2 = some ad → ad.block ∉ G := fun ad e hm => by have a1 := hA2 ad e; have a2 := (HI.out.gl _ hm).2; omega
        have H2b := Lib.hid (And.intro hI2 (And.intro hR2 (And.intro hA2G hF)))
        clear hR2 hA2 hB2 hI2 hF hA2G
        go_wp2_with fail
        refine H2b.out.2.2.2.mono ?_
        rintro e w3 ⟨A3, n3, c3, rfl, hR3, hOv, hT3, hn3⟩
        have hW3 := Rd.turn H2b.out.2.1 hT3 H2b.out.2.2.1
        have hO3 := below_turn H2b.out.1.old hT3 (fun t ht => (H2b.out.1.gl t ht).1) H2b.out.1.old.size
        have H3 := Lib.hid (And.intro hR3 (And.intro hOv (And.intro hW3 (H1.out.trans hO3))))
        clear hR3 hOv hT3 hW3 hO3
        go_wp2_with fail
        refine (final_over d w3 H3.out.2.1).mono ?_
        rintro e w4 ⟨rfl, rfl⟩
        go_wp2_with fail
        have ho3 : Old w3 (w3.alloc (.cells #[.int .u8 120] 5 (1, 2))) := (Old.refl w3).alloc _
        refine (update_over d _ 1 1 _ (H3.out.2.1.below ho3)).mono ?_
        rintro e w4 ⟨rfl, rfl⟩
        have H4 := Lib.hid (And.intro (H3.out.2.1.below ho3) (And.intro (H3.out.1.below ho3) (And.intro (H3.out.2.2.1.below ho3) (H3.out.2.2.2.trans ho3))))
        obtain ⟨w4, hw4⟩ : ∃ w4, w3.alloc (.cells #[.int .u8 120] 5 (1, 2)) = w4 := ⟨_, rfl⟩
        rw [hw4] at H4 ⊢
        clear ho3 hw4 hn3
        by_cases hv : v5 = 0
        · subst hv
          have hWW := HRR.out.2.2 rfl
          have hR7 := H4.out.2.2.1
          rw [hWW] at hR7
          have hn2 := hR7.1
          rw [List.length_append, HI.out.kf] at hn2
          have hkn : kf ≤ n2 := by omega
          obtain ⟨A7, n7, c7, hn7, hS7, hR7, _⟩ := hR7.cut_ex2 (k := kf) hkn
          rw [← HI.out.kf, List.drop_left] at hR7
          have hc2 := H4.out.2.2.1.2.1
          have HF := Lib.hid (And.intro H4.out.2.1 H4.out.2.2.2)
          clear hn7 hn2 hWW
          go_wp2_with (go_at_call 19; refine (holds_over d _ H4.out.1).mono ?_; rintro e w5 ⟨rfl, rfl⟩)
          refine region_old (by kernel_rfl) (fun wd hHeld hSz => ?_)
          have HSz := Lib.hid hSz
          clear hSz
          refine takeL (i := 0) (v := ?_) rfl (by kernel_rfl) (by kernel_rfl) (by kernel_rfl) (fun _ _ _ h => h) (Or.inl ⟨by rfl, ?_⟩) hHeld ?_
          rotate_left
          focus (intro wq hSw; clear hSw; go_simp; try with_reducible rfl)
          try simp only [Act.put, List.setIfInBounds_toArray, List.set_cons_zero, List.set_cons_succ]
          refine takeL (i := 1) (v := ?_) rfl (by kernel_rfl) (by kernel_rfl) (by kernel_rfl) (fun _ _ _ h => h) (Or.inl ⟨by rfl, ?_⟩) hHeld ?_
          rotate_left
          focus (intro wq hSw; clear hSw; go_simp; try with_reducible rfl)
          try simp only [Act.put, List.setIfInBounds_toArray, List.set_cons_zero, List.set_cons_succ]
          refine takeL (i := 2) (v := ?_) rfl (by kernel_rfl) (by kernel_rfl) (by kernel_rfl) (fun _ _ _ h => h) (Or.inl ⟨by rfl, ?_⟩) hHeld ?_
          rotate_left
          focus (intro wq hSw; clear hSw; go_simp; try with_reducible rfl)
          try simp only [Act.put, List.setIfInBounds_toArray, List.set_cons_zero, List.set_cons_succ]
          refine takeL (i := 3) (v := ?_) rfl (by kernel_rfl) (by kernel_rfl) (by kernel_rfl) (fun _ _ _ h => h) (Or.inl ⟨by rfl, ?_⟩) hHeld ?_
          rotate_left
          focus (intro wq hSw; have hRun := HF.out.1.str_below hSw; clear hSw; go_simp; try with_reducible rfl)
          try simp only [Act.put, List.setIfInBounds_toArray, List.set_cons_zero, List.set_cons_succ]
          refine takeL (i := 4) (v := ?_) rfl (by kernel_rfl) (by kernel_rfl) (by kernel_rfl) (fun _ _ _ h => h) (Or.inl ⟨by rfl, ?_⟩) hHeld ?_
          rotate_left
          focus (intro wq hSw; clear hSw; go_simp; try with_reducible rfl)
          try simp only [Act.put, List.setIfInBounds_toArray, List.set_cons_zero, List.set_cons_succ]
          refine takeL (i := 5) (v := ?_) rfl (by kernel_rfl) (by kernel_rfl) (by kernel_rfl) (fun _ _ _ h => h) (Or.inl ⟨by rfl, ?_⟩) hHeld ?_
          rotate_left
          focus (intro wq hSw; clear hSw; go_simp; try with_reducible rfl)
          try simp only [Act.put, List.setIfInBounds_toArray, List.set_cons_zero, List.set_cons_succ]
          refine takeL (i := 6) (v := ?_) rfl (by kernel_rfl) (by kernel_rfl) (by kernel_rfl) (fun _ _ _ h => h) (Or.inl ⟨by rfl, ?_⟩) hHeld ?_
          rotate_left
          focus (intro wq hSw; clear hSw; go_simp; try with_reducible rfl)
          try simp only [Act.put, List.setIfInBounds_toArray, List.set_cons_zero, List.set_cons_succ]
          refine takeL (i := 7) (v := ?_) rfl (by kernel_rfl) (by kernel_rfl) (by kernel_rfl) (fun _ _ _ h => h) (Or.inl ⟨by rfl, ?_⟩) hHeld ?_
          rotate_left
          focus (intro wq hSw; have hRun := hR7.str_below hSw; clear hSw; go_simp; try with_reducible rfl)
          try simp only [Act.put, List.setIfInBounds_toArray, List.set_cons_zero, List.set_cons_succ]
          refine takeL (i := 8) (v := ?_) rfl (by kernel_rfl) (by kernel_rfl) (by kernel_rfl) (fun _ _ _ h => h) (Or.inl ⟨by rfl, ?_⟩) hHeld ?_
          rotate_left
          focus (intro wq hSw; clear hSw; go_simp; try with_reducible rfl)
          try simp only [Act.put, List.setIfInBounds_toArray, List.set_cons_zero, List.set_cons_succ]
          refine takeL (i := 9) (v := ?_) rfl (by kernel_rfl) (by kernel_rfl) (by kernel_rfl) (fun _ _ _ h => h) (Or.inl ⟨by rfl, ?_⟩) hHeld ?_
          rotate_left
          focus (intro wq hSw; clear hSw; go_simp; try with_reducible rfl)
          try simp only [Act.put, List.setIfInBounds_toArray, List.set_cons_zero, List.set_cons_succ]
          refine takeL (i := 10) (v := ?_) rfl (by kernel_rfl) (by kernel_rfl) (by kernel_rfl) (fun _ _ _ h => h) (Or.inl ⟨by rfl, ?_⟩) hHeld ?_
          rotate_left
          focus (intro wq hSw; clear hSw; go_simp; try with_reducible rfl)
          try simp only [Act.put, List.setIfInBounds_toArray, List.set_cons_zero, List.set_cons_succ]
          refine wpAnyH_done (by kernel_rfl) ?_ _
          refine NoPanic.normal ?_
          simp only [Exit.then]
          try go_at_K
          have HZ := Lib.hid (Below.trans HF.out.2 (Below.mono hHeld HF.out.2.size))
          clear hHeld
          go_wp2_with fail
          go_ret
          exact ⟨rfl, HZ.out⟩
        · have hfin := HM2.out.2.2.2.2.1 al (by rw [HRR.out.2.1]; exact hv)
          have hR3 := H4.out.2.1
          rw [hfin] at hR3
          have hn30 : n3 = 0 := hR3.1
          subst hn30
          have hvb : (v5 != 0) = true := by simpa using hv
          clear hfin hR3 hv
          go_wp2_with (go_at_call 19; refine (holds_over d _ H4.out.1).mono ?_; rintro e w5 ⟨rfl, rfl⟩)
          go_ret
          exact ⟨rfl, H4.out.2.2.2⟩
end Go.Proofs.Ytiocmebcbhbcmaa
