/-
  blockfs: the law FsCrash, walked.
  blockfs: the law FsTwice, walked.
-/
import Derived.Test.YtomngfihaohgdaaDoorFs27
namespace Go.Proofs.YtomngfihaohgdaaDoor
set_option maxRecDepth 100000
open Go.RowKit

theorem cl_fuse {s : Dsk} {i : Nat} {l : List UInt8} (h : Cl s i l) (q : Int) : Cl (s.fuse q) i l := by
  unfold Dsk.fuse
  split
  · exact h
  · exact h
theorem good_fuse {s : Dsk} {c : Nat} {m : List (List UInt8)} (h : Good headB s c m) (q : Int) : Good headB (s.fuse q) c m := by
  obtain ⟨l, h2, h3⟩ := h.h2
  have hn := fuse_n s q
  exact ⟨by rw [hn]; exact h.n16, by rw [hn]; exact h.n60, by rw [hn]; exact h.len, cl_fuse h.h1 q, ⟨l, cl_fuse h2 q, h3⟩, fun i b hi => by rw [hn]; exact cl_fuse (h.side i b hi) q⟩
theorem fok_fuse {s : Dsk} {k : Nat} (h : FOk s k) (hd : s.dead = false) (q : Int) (hq : q < 1000) : FOk (s.fuse q) k := by
  unfold Dsk.fuse
  rw [if_neg (by simp [hd])]
  exact ⟨fun _ h => by simp only [decide_eq_false_iff_not] at h; simp only; omega, by simp only; omega, h.count⟩
theorem isM_cl {s : Dsk} {B c : Nat} {m : List (List UInt8)} (hm : m.length = B) (hg : ∀ (i : Nat) (b : List UInt8), m[i]? = some b → Cl s (8 + c % 2 * B + i) b) : isM s c m = true := by
  refine decide_eq_true fun i hi => ?_
  obtain ⟨b, hb⟩ : ∃ b, m[i]? = some b := ⟨_, List.getElem?_eq_getElem hi⟩
  have := (hg i b hb).1
  rw [← hm] at this
  rw [hb, this]; rfl
/-- What a commit on a device that may die leaves, behind a crash of any kind. -/
theorem turn_crash {s : Dsk} {c k : Nat} {m m2 : List (List UInt8)} (hg : Good headB s c m) (hf : FOk s k) (hl : m2.length = (s.n - 8) / 2) {ok : Bool} {s' : Dsk} (h : s.turnW headB c m2 = (ok, s')) :
    s'.n = s.n ∧ (ok = false → isM s' c m = true) ∧ (ok = true → ∀ kp, Good headB (s'.crash kp) (c + 1) m2) ∧ ∀ kp, Good headB (s'.crash kp) c m ∨ Good headB (s'.crash kp) (c + 1) m2 := by
  obtain ⟨h1, _, h3, h4⟩ := turn_spec hg hf hl
  rw [h] at h1 h3 h4
  simp only at h1 h3 h4
  refine ⟨h1.n, fun e => ?_, fun e kp => (h3 e).crash kp, fun kp => ?_⟩
  · rcases h4 e with g | g
    · exact isM_good (B := (s.n - 8) / 2) (by rw [h1.n]) (by rw [← hg.len]) g
    · exact isM_cl (B := (s'.n - 8) / 2) (by rw [h1.n, ← hg.len]) g.side
  · cases hok : ok with
    | true => exact .inr ((h3 hok).crash kp)
    | false =>
      rcases h4 hok with g | g
      · exact .inl (g.crash kp)
      · exact g.crash kp
structure MdT (w wr : World) (S d L v B : Nat) (n : Nat) (br : Bool) (s : Dsk) (A : Option Addr) (m c : Nat) (rs : List RowV) : Prop where
  D : DkAt wr d L s
  V : VolB wr v d B n br
  M : ModAt wr w.heap.size (.slice A m c) rs
  O : Old w wr
  sn : s.n = S
theorem MdT.below {w wr w' : World} {S d L v B n m c : Nat} {br : Bool} {s : Dsk} {A : Option Addr} {rs : List RowV} (h : MdT w wr S d L v B n br s A m c rs) (hb : Old wr w') : MdT w w' S d L v B n br s A m c rs :=
  ⟨h.D.below hb, Blk.below h.V hb, h.M.below hb, Old.trans h.O hb, h.sn⟩
/-- A mounted device. -/
structure Mnt (w : World) (d L v B n : Nat) (s : Dsk) (S : Nat) (ms : List (List UInt8)) : Prop where
  D : DkAt w d L s
  V : VolB w v d B n false
  G : Good headB s n ms
  sn : s.n = S
  de : s.dead = false
  fu : s.fused = false
theorem Mnt.below {w w' : World} {d L v B n S : Nat} {s : Dsk} {ms : List (List UInt8)} (h : Mnt w d L v B n s S ms) (hb : Old w w') : Mnt w' d L v B n s S ms :=
  ⟨h.D.below hb, Blk.below h.V hb, h.G, h.sn, h.de, h.fu⟩
theorem Mnt.is_any {w : World} {d L v B n S : Nat} {s : Dsk} {ms : List (List UInt8)} (h : Mnt w d L v B n s S ms) {A : Option Addr} {m c base : Nat} {rs : List RowV} (hM : ModAt w base (.slice A m c) rs) (hl : rs.length = B) (hB : (S - 8) / 2 = B) (hn : n ≤ 100) :
    Calls Tryd.prog 12 #[.pointer (some ⟨v, 0, none⟩), .slice A m c] w fun e w' => e = .returned (.bool (isM s n (rs.map (·.l)))) ∧ Old w w' :=
  is_side v d L n B false s A m c base rs w h.V h.D hM h.G.n16 h.G.n60 hl (by rw [h.sn, hB]) (by omega)
theorem Mnt.is_good {w : World} {d L v B n S : Nat} {s : Dsk} {ms : List (List UInt8)} (h : Mnt w d L v B n s S ms) {A : Option Addr} {m c base : Nat} {rs : List RowV} (hM : ModAt w base (.slice A m c) rs) (hr : rs.map (·.l) = ms) (hB : (S - 8) / 2 = B) (hn : n ≤ 100) :
    Calls Tryd.prog 12 #[.pointer (some ⟨v, 0, none⟩), .slice A m c] w fun e w' => e = .returned (.bool true) ∧ Old w w' :=
  Go.Proofs.YtomngfihaohgdaaDoor.is_good v d L n B false s A m c base rs w h.V h.D hM (by rw [hr]; exact h.G) (by rw [h.sn, hB]) (by omega)
/-- A device to be mounted. -/
structure Dev (w : World) (d L n : Nat) (s : Dsk) (S : Nat) (ms : List (List UInt8)) : Prop where
  D : DkAt w d L s
  G : Good headB s n ms
  sn : s.n = S
  de : s.dead = false
  fu : s.fused = false
theorem Dev.below {w w' : World} {d L n S : Nat} {s : Dsk} {ms : List (List UInt8)} (h : Dev w d L n s S ms) (hb : Old w w') : Dev w' d L n s S ms := ⟨h.D.below hb, h.G, h.sn, h.de, h.fu⟩
theorem Dev.mount {w : World} {d L n S B : Nat} {s : Dsk} {ms : List (List UInt8)} (h : Dev w d L n s S ms) (hB : (S - 8) / 2 = B) (hK : KAt w) (hn : n ≤ 100) :
    Calls Tryd.prog 14 #[.pointer (some ⟨d, 0, none⟩)] w fun e w' => ∃ v, e = .returned (.tuple #[.pointer (some ⟨v, 0, none⟩), .int .i64 0]) ∧ w.heap.size ≤ v ∧ Mnt w' d L v B n s S ms ∧ Dev w' d L n s S ms ∧ Old w w' := by
  refine (mount_good d L s n ms w h.D h.G (by omega) h.de hK).mono ?_
  rintro e w' ⟨v, rfl, h1, h2, h3⟩
  rw [h.sn, hB] at h2
  exact ⟨v, rfl, h1, ⟨h.D.below h3, h2, h.G, h.sn, h.de, h.fu⟩, h.below h3, h3⟩
theorem keeper_two (A : Option Addr) (m c : Nat) (ks : List Bool) (all : Bool) (w : World) (hm : ks.length = m) (h : BoolsAt w A ks) :
    Calls Tryd.prog 26 #[.slice A m c, .bool all] w fun e w' => ∃ bx, e = .returned (.func (.func 38) #[] #[.pointer (some ⟨bx, 0, none⟩), .pointer (some ⟨bx + 1, 0, none⟩)]) ∧ KeepAt w' bx w'.heap.size A c ks all ∧ Old w w' := by
  subst hm
  exact keeper_any A c ks all w h
set_option maxHeartbeats 4000000 in
theorem fsCrash_walk (S : Int) (A : Option Addr) (N c : Nat) (css : List (List InP)) (Al : Option Addr) (ml cl : Nat) (ins : List InP) (F : Int) (Ak : Option Addr) (mk ck : Nat) (ks : List Bool) (w : World) (hK : KAt w)
    (hS0 : -9223372036854775808 ≤ S) (hS1 : S ≤ 9223372036854775807) (hN : N ≤ maxLen) (hc : CmAt w A N css) (hml : ml ≤ 3518437208780) (hl : InsAt w Al ml ins) (hF0 : -9223372036854775808 ≤ F) (hF1 : F ≤ 9223372036854775807)
    (hmk : mk ≤ maxLen) (hk : ks.length = mk ∧ BoolsAt w Ak ks) :
    Calls Tryd.prog 6 #[.int .i64 S, .slice A N c, .slice Al ml cl, .int .i64 F, .slice Ak mk ck] w fun e w' => e = .returned (.bool true) ∧ Below w.heap.size w w' := by
  have HW := Lib.hid (And.intro hK (And.intro hc (And.intro hl hk)))
  have HB2 := Lib.hid (show ks.length ≤ 9223372036854775807 by rw [hk.1]; unfold maxLen at hmk; omega)
  have hs := fun W => fsize_any S hS0 hS1 W
  obtain ⟨hSa, hSb⟩ := sizeN_in S
  have hN' : N ≤ 9223372036854775807 := by unfold maxLen at hN; omega
  obtain ⟨Z, hZ⟩ : ∃ Z, sizeN S = Z := ⟨_, rfl⟩
  obtain ⟨B, hB⟩ : ∃ B, (Z - 8) / 2 = B := ⟨_, rfl⟩
  simp only [hZ] at hs
  rw [hZ] at hSa hSb
  clear hK hc hZ hN hl hk hmk
  go_enter Tryd.func6, Tryd.ntmps6
  go_wp2_with fail
  refine (begun_any w HW.out.1).mono ?_
  rintro e w1 ⟨rfl, hb1⟩
  have H1 := Lib.hid hb1
  clear hb1
  go_wp2_with fail
  refine (hs w1).mono ?_
  rintro e w' ⟨rfl, rfl⟩
  have hmd := made_any Z B A N c css w1 (HW.out.1.below H1.out) hSa hSb (HW.out.2.1.below H1.out) hN' hB
  clear hs hB
  go_wp2_with fail
  refine hmd.mono ?_
  rintro e w2 ⟨d, L, v, n, s, A2, m2, c2, rs, rfl, hI⟩
  have hn6 := hI.nk
  obtain rfl := hI.m_eq
  have hpu := puts_any Al ml cl m2 ins w2 ((HW.out.2.2.1.below H1.out).below hI.O) (by have := hI.hB; omega) hml
  have H2 := Lib.hid hI
  have kd := neDk
  have kv := neVol
  have kv' := neVol'
  clear hmd hI hml
  go_wp2_with fail
  refine hpu.mono ?_
  rintro e w3 ⟨A7, c7, ps, rfl, hP, hps, hO3⟩
  obtain rfl : ml = ps.length := hP.1.len
  have hI3 := H2.out.below hO3
  have H3 := Lib.hid (And.intro hI3 hP)
  clear hpu hP hps hO3
  cases hmm : mayP m2 ps with
  | false =>
    go_wp2_with fail
    go_ret
    exact ⟨rfl, Old.trans H1.out H3.out.1.O⟩
  | true =>
  by_cases hp0 : ps.length = 0
  · have hp0d : decide ((ps.length : Int) = 0) = true := decide_eq_true (by omega)
    have hp0e : (ps.length == 0) = true := by simp [hp0]
    go_wp2_with fail
    go_ret
    exact ⟨rfl, Old.trans H1.out H3.out.1.O⟩
  have hp0d : decide ((ps.length : Int) = 0) = false := decide_eq_false (by omega)
  have hp0i : ¬ (ps.length : Int) = 0 := by omega
  have HM := Lib.hid (And.intro hmm (show 0 < ps.length by omega))
  clear hmm hI3
  by_cases hFn : F < 0
  · have hFd : decide (F < 0) = true := decide_eq_true hFn
    obtain ⟨k, hk⟩ : ∃ k : Nat, -(F + 1) = k := ⟨(-(F + 1)).toNat, by omega⟩
    have g1 : IntKind.i64.wrap (F + 1) = F + 1 := IntWalk.i64_in _ (by omega)
    have g2 : IntKind.i64.wrap (-(F + 1)) = -(F + 1) := IntWalk.i64_in _ (by omega)
    rw [hk] at g2
    obtain ⟨q, hq⟩ : ∃ q, (k : Int).tmod 40 = q := ⟨_, rfl⟩
    obtain ⟨r2, hr2⟩ : ∃ r2, (k : Int).tmod 2 = r2 := ⟨_, rfl⟩
    obtain ⟨r3, hr3⟩ : ∃ r3, (k : Int).tmod 3 = r3 := ⟨_, rfl⟩
    obtain ⟨a2, ha2⟩ : ∃ a2, (r2 == 0) = a2 := ⟨_, rfl⟩
    obtain ⟨a3, ha3⟩ : ∃ a3, (r3 == 0) = a3 := ⟨_, rfl⟩
    have HQ := Lib.hid (show q < 1000 by rw [← hq, Int.tmod_eq_emod_of_nonneg (by omega)]; omega)
    clear hF0 hF1
    go_wp2_with fail
    try rw [hk]
    go_wp2_with fail
    clear g1 g2 hk hFd hFn
    have hfu := dk_fuse d L s q w3 H3.out.1.D
    refine hfu.mono ?_
    rintro e w4 ⟨rfl, hD4, hT4⟩
    have hT4' : Turn [d, L, v] w3 w4 := hT4.more (by simp)
    have hG4 := good_fuse H3.out.1.G q
    have hF4 := fok_fuse H3.out.1.F H3.out.1.de q HQ.out
    have hn4 := fuse_n s q
    obtain ⟨s4, hs4⟩ : ∃ s4, s.fuse q = s4 := ⟨_, rfl⟩
    rw [hs4] at hD4 hG4 hF4 hn4
    rw [H3.out.1.sn] at hn4
    obtain ⟨hO4, hM4, hP4⟩ := H3.out.1.turned hT4'
    have hV4 : VolB w4 v d m2 n false := Blk.turn H3.out.1.V hT4 (by
      obtain ⟨⟨_, k1⟩, _, k2⟩ := H3.out.1.D.typed
      intro hv
      rcases List.mem_cons.1 hv with rfl | hv
      · exact Blk.ne_ k1 H3.out.1.V (by decide) rfl
      · rw [List.mem_singleton] at hv
        subst hv
        exact Blk.ne_ k2 H3.out.1.V (by decide) rfl)
    have hK4 := (HW.out.1.below H1.out).below hO4
    have hP4' := hP4 _ _ _ H3.out.2
    have hcm := commit_two v d L m2 n (1000 * 6 + 4) w2.heap.size A7 ps.length c7 ps s4 _ w4 hV4 hD4 hK4 hP4' hG4 (by rw [hn4, H3.out.1.hB]) (by omega) hF4 (by omega)
    have hlen8 : (after (rs.map (·.l)) (ps.map toPut)).length = (s4.n - 8) / 2 := by rw [after_len, List.length_map, H3.out.1.len, hn4, H3.out.1.hB]
    obtain ⟨ok, s5, hs5⟩ : ∃ ok s5, s4.turnW headB n (after (rs.map (·.l)) (ps.map toPut)) = (ok, s5) := ⟨_, _, rfl⟩
    have htc := turn_crash hG4 hF4 hlen8 hs5
    unfold ComPost at hcm
    rw [hs5] at hcm
    rw [hn4] at htc
    have H4 := Lib.hid (And.intro hO4 (And.intro hM4 (And.intro hP4' htc.1)))
    have HT4 := Lib.hid (show ∀ w5, Turn [d, L, v] w4 w5 → Old w1 w5 ∧ ModAt w5 w1.heap.size (.slice A2 m2 c2) rs ∧ PutsOwn w5 w2.heap.size (.slice A7 ps.length c7) ps from fun w5 h5 => by
      obtain ⟨i1, i2, i3⟩ := H3.out.1.turned (hT4'.trans h5 (fun x hx => .inl hx))
      exact ⟨i1, i2, i3 _ _ _ H3.out.2⟩)
    clear hfu hD4 hT4 hT4' hG4 hF4 hn4 hs4 hO4 hM4 hP4 hV4 hK4 hP4' hlen8 hs5
    cases ok with
    | false =>
      have HX5 := Lib.hid (htc.2.1 rfl)
      have HY5 := Lib.hid htc.2.2.2
      clear htc
      go_wp2_with fail
      refine hcm.mono ?_
      rintro e w5 (⟨hx, _⟩ | ⟨_, hx, _⟩ | ⟨_, _, rfl, hD5, hV5, hT5⟩)
      · rw [HM.out.1] at hx; cases hx
      · have := HM.out.2; rw [hx] at this; simp at this
      obtain ⟨hO5, hM5, hP5⟩ := HT4.out w5 hT5
      have haf := H3.out.1.after_call (w' := w5) hM5 hO5 H2.out.O.size hP5 HM.out.1
      have H5 := Lib.hid (show MdT w1 w5 Z d L v m2 _ _ s5 A2 m2 c2 rs from ⟨hD5, hV5, hM5, hO5, H4.out.2.2.2⟩)
      clear hcm hD5 hV5 hT5 hO5 hM5 hP5
      go_wp2_with fail
      refine haf.mono ?_
      rintro e w6 ⟨A8, m8, c8, rs8, rfl, hM8, hrs8, hO8⟩
      have H6 := Lib.hid (And.intro hrs8 (And.intro (H5.out.below hO8) hM8))
      clear haf hM8 hrs8 hO8
      have hix := is_side v d L n m2 true s5 A2 m2 c2 _ rs w6 H6.out.2.1.V H6.out.2.1.D H6.out.2.1.M (by rw [H6.out.2.1.sn]; exact hSa) (by rw [H6.out.2.1.sn]; omega) H3.out.1.len (by rw [H6.out.2.1.sn, H3.out.1.hB]) (by omega)
      rw [HX5.out] at hix
      go_wp2_with fail
      refine hix.mono ?_
      rintro e w7 ⟨rfl, hO7⟩
      have H7 := Lib.hid (And.intro (H6.out.2.1.below hO7) (H6.out.2.2.below hO7))
      have hkp := keeper_two Ak mk ck ks a2 w7 HW.out.2.2.2.1 ((HW.out.2.2.2.2.below H1.out).below H7.out.1.O)
      clear hO7
      go_wp2_with fail
      refine hkp.mono ?_
      rintro e w8 ⟨bx, rfl, hk8, hO8⟩
      have hcr := dk_keep bx Ak ck ks a2 HB2.out (H7.out.1.D.below hO8) hk8
      have H8 := Lib.hid (And.intro (H7.out.1.below hO8) (H7.out.2.below hO8))
      clear hkp hk8 hO8
      go_wp2_with fail
      refine hcr.mono ?_
      rintro e w9 ⟨d9, L9, rfl, hD9, hd9, hL9, hO9⟩
      have H9 := Lib.hid (And.intro (H8.out.1.below hO9) (And.intro (H8.out.2.below hO9) hD9))
      clear hcr hD9 hd9 hL9 hO9
      rcases HY5.out (keptB ks a2) with g9 | g9
      · obtain ⟨f1, f2, _⟩ := crash_fresh s5 (keptB ks a2)
        have hn9 := crash_n s5 (keptB ks a2)
        obtain ⟨s9, hs9⟩ : ∃ s9, s5.crash (keptB ks a2) = s9 := ⟨_, rfl⟩
        have hDv : Dev w9 d9 L9 n s9 Z (rs.map (·.l)) := ⟨by rw [← hs9]; exact H9.out.2.2, by rw [← hs9]; exact g9, by rw [← hs9, hn9]; exact H4.out.2.2.2, by rw [← hs9]; exact f2, by rw [← hs9]; exact f1⟩
        have hmn := hDv.mount H3.out.1.hB ((HW.out.1.below H1.out).below H9.out.1.O) (by omega)
        clear f1 f2 hn9 hs9 g9 hDv
        go_wp2_with fail
        refine hmn.mono ?_
        rintro e w10 ⟨v10, rfl, _, hm10, hd10, hO10⟩
        have H10 := Lib.hid (And.intro (H9.out.1.below hO10) (And.intro (H9.out.2.1.below hO10) (And.intro hm10 hd10)))
        have hco := commits_any v10 d9 m2 n false w10 hm10.V
        clear hmn hm10 hd10 hO10
        go_wp2_with fail
        refine hco.mono ?_
        rintro e w' ⟨rfl, rfl⟩
        have hi1 := H10.out.2.2.1.is_good H10.out.1.M rfl H3.out.1.hB (by omega)
        clear hco
        go_wp2_with fail
        refine hi1.mono ?_
        rintro e w11 ⟨rfl, hO11⟩
        have H11 := Lib.hid (And.intro (H10.out.1.below hO11) (And.intro (H10.out.2.1.below hO11) (And.intro (H10.out.2.2.1.below hO11) (H10.out.2.2.2.below hO11))))
        clear hi1 hO11
        have hi2 := H11.out.2.2.1.is_any (A := A8) (m := m8) (c := c8) H11.out.2.1 (by have := congrArg List.length H6.out.1; rw [after_len, List.length_map, List.length_map, H3.out.1.len] at this; exact this) H3.out.1.hB (by omega)
        obtain ⟨b2, hb2⟩ : ∃ b2, isM s9 n (rs8.map (·.l)) = b2 := ⟨_, rfl⟩
        rw [hb2] at hi2
        clear hb2
        cases b2
        all_goals
          go_wp2_with fail
          refine hi2.mono ?_
          rintro e w12 ⟨rfl, hO12⟩
          have H12 := Lib.hid (And.intro (H11.out.1.below hO12) (And.intro (H11.out.2.1.below hO12) (H11.out.2.2.2.below hO12)))
          clear hi2 hO12
          have hkp := keeper_two Ak mk ck ks a3 w12 HW.out.2.2.2.1 ((HW.out.2.2.2.2.below H1.out).below H12.out.1.O)
          go_wp2_with fail
          refine hkp.mono ?_
          rintro e w13 ⟨bx3, rfl, hk13, hO13⟩
          have hcr := dk_keep bx3 Ak ck ks a3 HB2.out (H12.out.2.2.D.below hO13) hk13
          have H13 := Lib.hid (And.intro (H12.out.1.below hO13) (And.intro (H12.out.2.1.below hO13) (H12.out.2.2.below hO13)))
          clear hkp hk13 hO13
          go_wp2_with fail
          refine hcr.mono ?_
          rintro e w14 ⟨d14, L14, rfl, hD14, _, _, hO14⟩
          obtain ⟨f1, f2, _⟩ := crash_fresh s9 (keptB ks a3)
          have hn14 := crash_n s9 (keptB ks a3)
          have hG14 := H13.out.2.2.G.crash (keptB ks a3)
          obtain ⟨s14, hs14⟩ : ∃ s14, s9.crash (keptB ks a3) = s14 := ⟨_, rfl⟩
          have hDv : Dev w14 d14 L14 n s14 Z (rs.map (·.l)) := ⟨by rw [← hs14]; exact hD14, by rw [← hs14]; exact hG14, by rw [← hs14, hn14]; exact H13.out.2.2.sn, by rw [← hs14]; exact f2, by rw [← hs14]; exact f1⟩
          have H14 := Lib.hid (And.intro (H13.out.1.below hO14) (And.intro (H13.out.2.1.below hO14) (H13.out.2.2.below hO14)))
          have hmn := hDv.mount H3.out.1.hB ((HW.out.1.below H1.out).below H14.out.1.O) (by omega)
          clear f1 f2 hn14 hs14 hG14 hDv hcr hD14 hO14
          go_wp2_with fail
          refine hmn.mono ?_
          rintro e w15 ⟨v15, rfl, _, hm15, _, hO15⟩
          have H15 := Lib.hid (And.intro (H14.out.1.below hO15) (And.intro (H14.out.2.1.below hO15) (And.intro (H14.out.2.2.below hO15) hm15)))
          clear hmn hm15 hO15
          have hmn := H15.out.2.2.1.mount H3.out.1.hB ((HW.out.1.below H1.out).below H15.out.1.O) (by omega)
          go_wp2_with fail
          refine hmn.mono ?_
          rintro e w16 ⟨v16, rfl, _, hm16, _, hO16⟩
          have H16 := Lib.hid (And.intro (H15.out.1.below hO16) (And.intro (H15.out.2.1.below hO16) (And.intro (H15.out.2.2.2.below hO16) hm16)))
          clear hmn hm16 hO16
          have hco := commits_any v15 d14 m2 n false w16 H16.out.2.2.1.V
          have hco2 := commits_any v16 d9 m2 n false w16 H16.out.2.2.2.V
          go_wp2_with fail
          refine hco.mono ?_
          rintro e w' ⟨rfl, rfl⟩
          go_wp2_with fail
          refine hco2.mono ?_
          rintro e w' ⟨rfl, rfl⟩
          clear hco hco2
          have hi3 := H16.out.2.2.1.is_good (A := A2) (m := m2) (c := c2) H16.out.1.M rfl H3.out.1.hB (by omega)
          go_wp2_with fail
          refine hi3.mono ?_
          rintro e w17 ⟨rfl, hO17⟩
          have H17 := Lib.hid (And.intro (H16.out.1.below hO17) (And.intro (H16.out.2.1.below hO17) (H16.out.2.2.2.below hO17)))
          clear hi3 hO17
          have hi4 := H17.out.2.2.is_good (A := A2) (m := m2) (c := c2) H17.out.1.M rfl H3.out.1.hB (by omega)
          go_wp2_with fail
          refine hi4.mono ?_
          rintro e w18 ⟨rfl, hO18⟩
          have H18 := Lib.hid (Old.trans H1.out (H17.out.1.below hO18).O)
          clear hi4 hO18
          go_wp2_with fail
          go_ret
          exact ⟨rfl, H18.out⟩
      · obtain ⟨f1, f2, _⟩ := crash_fresh s5 (keptB ks a2)
        have hn9 := crash_n s5 (keptB ks a2)
        obtain ⟨s9, hs9⟩ : ∃ s9, s5.crash (keptB ks a2) = s9 := ⟨_, rfl⟩
        have hDv : Dev w9 d9 L9 (n + 1) s9 Z (after (rs.map (·.l)) (ps.map toPut)) := ⟨by rw [← hs9]; exact H9.out.2.2, by rw [← hs9]; exact g9, by rw [← hs9, hn9]; exact H4.out.2.2.2, by rw [← hs9]; exact f2, by rw [← hs9]; exact f1⟩
        have hmn := hDv.mount H3.out.1.hB ((HW.out.1.below H1.out).below H9.out.1.O) (by omega)
        clear f1 f2 hn9 hs9 g9 hDv
        go_wp2_with fail
        refine hmn.mono ?_
        rintro e w10 ⟨v10, rfl, _, hm10, hd10, hO10⟩
        have H10 := Lib.hid (And.intro (H9.out.1.below hO10) (And.intro (H9.out.2.1.below hO10) (And.intro hm10 hd10)))
        have hco := commits_any v10 d9 m2 (n + 1) false w10 hm10.V
        clear hmn hm10 hd10 hO10
        go_wp2_with fail
        refine hco.mono ?_
        rintro e w' ⟨rfl, rfl⟩
        have hi1 := H10.out.2.2.1.is_any H10.out.1.M H3.out.1.len H3.out.1.hB (by omega)
        obtain ⟨b2, hb2⟩ : ∃ b2, isM s9 (n + 1) (rs.map (·.l)) = b2 := ⟨_, rfl⟩
        rw [hb2] at hi1
        clear hb2
        cases b2
        all_goals
          clear hco
          go_wp2_with fail
          refine hi1.mono ?_
          rintro e w11 ⟨rfl, hO11⟩
          have H11 := Lib.hid (And.intro (H10.out.1.below hO11) (And.intro (H10.out.2.1.below hO11) (And.intro (H10.out.2.2.1.below hO11) (H10.out.2.2.2.below hO11))))
          clear hi1 hO11
          have hi2 := H11.out.2.2.1.is_good (A := A8) (m := m8) (c := c8) H11.out.2.1 H6.out.1 H3.out.1.hB (by omega)
          go_wp2_with fail
          refine hi2.mono ?_
          rintro e w12 ⟨rfl, hO12⟩
          have H12 := Lib.hid (And.intro (H11.out.1.below hO12) (And.intro (H11.out.2.1.below hO12) (H11.out.2.2.2.below hO12)))
          clear hi2 hO12
          have hkp := keeper_two Ak mk ck ks a3 w12 HW.out.2.2.2.1 ((HW.out.2.2.2.2.below H1.out).below H12.out.1.O)
          go_wp2_with fail
          refine hkp.mono ?_
          rintro e w13 ⟨bx3, rfl, hk13, hO13⟩
          have hcr := dk_keep bx3 Ak ck ks a3 HB2.out (H12.out.2.2.D.below hO13) hk13
          have H13 := Lib.hid (And.intro (H12.out.1.below hO13) (And.intro (H12.out.2.1.below hO13) (H12.out.2.2.below hO13)))
          clear hkp hk13 hO13
          go_wp2_with fail
          refine hcr.mono ?_
          rintro e w14 ⟨d14, L14, rfl, hD14, _, _, hO14⟩
          obtain ⟨f1, f2, _⟩ := crash_fresh s9 (keptB ks a3)
          have hn14 := crash_n s9 (keptB ks a3)
          have hG14 := H13.out.2.2.G.crash (keptB ks a3)
          obtain ⟨s14, hs14⟩ : ∃ s14, s9.crash (keptB ks a3) = s14 := ⟨_, rfl⟩
          have hDv : Dev w14 d14 L14 (n + 1) s14 Z (after (rs.map (·.l)) (ps.map toPut)) := ⟨by rw [← hs14]; exact hD14, by rw [← hs14]; exact hG14, by rw [← hs14, hn14]; exact H13.out.2.2.sn, by rw [← hs14]; exact f2, by rw [← hs14]; exact f1⟩
          have H14 := Lib.hid (And.intro (H13.out.1.below hO14) (And.intro (H13.out.2.1.below hO14) (H13.out.2.2.below hO14)))
          have hmn := hDv.mount H3.out.1.hB ((HW.out.1.below H1.out).below H14.out.1.O) (by omega)
          clear f1 f2 hn14 hs14 hG14 hDv hcr hD14 hO14
          go_wp2_with fail
          refine hmn.mono ?_
          rintro e w15 ⟨v15, rfl, _, hm15, _, hO15⟩
          have H15 := Lib.hid (And.intro (H14.out.1.below hO15) (And.intro (H14.out.2.1.below hO15) (And.intro (H14.out.2.2.below hO15) hm15)))
          clear hmn hm15 hO15
          have hmn := H15.out.2.2.1.mount H3.out.1.hB ((HW.out.1.below H1.out).below H15.out.1.O) (by omega)
          go_wp2_with fail
          refine hmn.mono ?_
          rintro e w16 ⟨v16, rfl, _, hm16, _, hO16⟩
          have H16 := Lib.hid (And.intro (H15.out.1.below hO16) (And.intro (H15.out.2.1.below hO16) (And.intro (H15.out.2.2.2.below hO16) hm16)))
          clear hmn hm16 hO16
          have hco := commits_any v15 d14 m2 (n + 1) false w16 H16.out.2.2.1.V
          have hco2 := commits_any v16 d9 m2 (n + 1) false w16 H16.out.2.2.2.V
          go_wp2_with fail
          refine hco.mono ?_
          rintro e w' ⟨rfl, rfl⟩
          go_wp2_with fail
          refine hco2.mono ?_
          rintro e w' ⟨rfl, rfl⟩
          clear hco hco2
          have hi3 := H16.out.2.2.1.is_good (A := A8) (m := m8) (c := c8) H16.out.2.1 H6.out.1 H3.out.1.hB (by omega)
          go_wp2_with fail
          refine hi3.mono ?_
          rintro e w17 ⟨rfl, hO17⟩
          have H17 := Lib.hid (And.intro (H16.out.1.below hO17) (And.intro (H16.out.2.1.below hO17) (H16.out.2.2.2.below hO17)))
          clear hi3 hO17
          have hi4 := H17.out.2.2.is_good (A := A8) (m := m8) (c := c8) H17.out.2.1 H6.out.1 H3.out.1.hB (by omega)
          go_wp2_with fail
          refine hi4.mono ?_
          rintro e w18 ⟨rfl, hO18⟩
          have H18 := Lib.hid (Old.trans H1.out (H17.out.1.below hO18).O)
          clear hi4 hO18
          go_wp2_with fail
          go_ret
          exact ⟨rfl, H18.out⟩
    | true =>
      have HY5 := Lib.hid (htc.2.2.1 rfl)
      clear htc
      go_wp2_with fail
      refine hcm.mono ?_
      rintro e w5 (⟨hx, _⟩ | ⟨_, hx, _⟩ | ⟨_, _, rfl, hD5, hV5, hT5⟩)
      · rw [HM.out.1] at hx; cases hx
      · have := HM.out.2; rw [hx] at this; simp at this
      obtain ⟨hO5, hM5, hP5⟩ := HT4.out w5 hT5
      have haf := H3.out.1.after_call (w' := w5) hM5 hO5 H2.out.O.size hP5 HM.out.1
      have H5 := Lib.hid (show MdT w1 w5 Z d L v m2 _ _ s5 A2 m2 c2 rs from ⟨hD5, hV5, hM5, hO5, H4.out.2.2.2⟩)
      clear hcm hD5 hV5 hT5 hO5 hM5 hP5
      go_wp2_with fail
      refine haf.mono ?_
      rintro e w6 ⟨A8, m8, c8, rs8, rfl, hM8, hrs8, hO8⟩
      have H6 := Lib.hid (And.intro hrs8 (And.intro (H5.out.below hO8) hM8))
      clear haf hM8 hrs8 hO8
      obtain ⟨w7, hw7⟩ : ∃ w7, w7 = w6 := ⟨_, rfl⟩
      subst hw7
      have hO7 := Old.refl w7
      have H7 := Lib.hid (And.intro (H6.out.2.1.below hO7) (H6.out.2.2.below hO7))
      have hkp := keeper_two Ak mk ck ks a2 w7 HW.out.2.2.2.1 ((HW.out.2.2.2.2.below H1.out).below H7.out.1.O)
      clear hO7
      go_wp2_with fail
      refine hkp.mono ?_
      rintro e w8 ⟨bx, rfl, hk8, hO8⟩
      have hcr := dk_keep bx Ak ck ks a2 HB2.out (H7.out.1.D.below hO8) hk8
      have H8 := Lib.hid (And.intro (H7.out.1.below hO8) (H7.out.2.below hO8))
      clear hkp hk8 hO8
      go_wp2_with fail
      refine hcr.mono ?_
      rintro e w9 ⟨d9, L9, rfl, hD9, hd9, hL9, hO9⟩
      have H9 := Lib.hid (And.intro (H8.out.1.below hO9) (And.intro (H8.out.2.below hO9) hD9))
      clear hcr hD9 hd9 hL9 hO9
      have g9 := HY5.out (keptB ks a2)
      obtain ⟨f1, f2, _⟩ := crash_fresh s5 (keptB ks a2)
      have hn9 := crash_n s5 (keptB ks a2)
      obtain ⟨s9, hs9⟩ : ∃ s9, s5.crash (keptB ks a2) = s9 := ⟨_, rfl⟩
      have hDv : Dev w9 d9 L9 (n + 1) s9 Z (after (rs.map (·.l)) (ps.map toPut)) := ⟨by rw [← hs9]; exact H9.out.2.2, by rw [← hs9]; exact g9, by rw [← hs9, hn9]; exact H4.out.2.2.2, by rw [← hs9]; exact f2, by rw [← hs9]; exact f1⟩
      have hmn := hDv.mount H3.out.1.hB ((HW.out.1.below H1.out).below H9.out.1.O) (by omega)
      clear f1 f2 hn9 hs9 g9 hDv
      go_wp2_with fail
      refine hmn.mono ?_
      rintro e w10 ⟨v10, rfl, _, hm10, hd10, hO10⟩
      have H10 := Lib.hid (And.intro (H9.out.1.below hO10) (And.intro (H9.out.2.1.below hO10) (And.intro hm10 hd10)))
      have hco := commits_any v10 d9 m2 (n + 1) false w10 hm10.V
      clear hmn hm10 hd10 hO10
      go_wp2_with fail
      refine hco.mono ?_
      rintro e w' ⟨rfl, rfl⟩
      have hi1 := H10.out.2.2.1.is_any H10.out.1.M H3.out.1.len H3.out.1.hB (by omega)
      obtain ⟨b2, hb2⟩ : ∃ b2, isM s9 (n + 1) (rs.map (·.l)) = b2 := ⟨_, rfl⟩
      rw [hb2] at hi1
      clear hb2
      cases b2
      all_goals
        clear hco
        go_wp2_with fail
        refine hi1.mono ?_
        rintro e w11 ⟨rfl, hO11⟩
        have H11 := Lib.hid (And.intro (H10.out.1.below hO11) (And.intro (H10.out.2.1.below hO11) (And.intro (H10.out.2.2.1.below hO11) (H10.out.2.2.2.below hO11))))
        clear hi1 hO11
        have hi2 := H11.out.2.2.1.is_good (A := A8) (m := m8) (c := c8) H11.out.2.1 H6.out.1 H3.out.1.hB (by omega)
        go_wp2_with fail
        refine hi2.mono ?_
        rintro e w12 ⟨rfl, hO12⟩
        have H12 := Lib.hid (And.intro (H11.out.1.below hO12) (And.intro (H11.out.2.1.below hO12) (H11.out.2.2.2.below hO12)))
        clear hi2 hO12
        have hkp := keeper_two Ak mk ck ks a3 w12 HW.out.2.2.2.1 ((HW.out.2.2.2.2.below H1.out).below H12.out.1.O)
        go_wp2_with fail
        refine hkp.mono ?_
        rintro e w13 ⟨bx3, rfl, hk13, hO13⟩
        have hcr := dk_keep bx3 Ak ck ks a3 HB2.out (H12.out.2.2.D.below hO13) hk13
        have H13 := Lib.hid (And.intro (H12.out.1.below hO13) (And.intro (H12.out.2.1.below hO13) (H12.out.2.2.below hO13)))
        clear hkp hk13 hO13
        go_wp2_with fail
        refine hcr.mono ?_
        rintro e w14 ⟨d14, L14, rfl, hD14, _, _, hO14⟩
        obtain ⟨f1, f2, _⟩ := crash_fresh s9 (keptB ks a3)
        have hn14 := crash_n s9 (keptB ks a3)
        have hG14 := H13.out.2.2.G.crash (keptB ks a3)
        obtain ⟨s14, hs14⟩ : ∃ s14, s9.crash (keptB ks a3) = s14 := ⟨_, rfl⟩
        have hDv : Dev w14 d14 L14 (n + 1) s14 Z (after (rs.map (·.l)) (ps.map toPut)) := ⟨by rw [← hs14]; exact hD14, by rw [← hs14]; exact hG14, by rw [← hs14, hn14]; exact H13.out.2.2.sn, by rw [← hs14]; exact f2, by rw [← hs14]; exact f1⟩
        have H14 := Lib.hid (And.intro (H13.out.1.below hO14) (And.intro (H13.out.2.1.below hO14) (H13.out.2.2.below hO14)))
        have hmn := hDv.mount H3.out.1.hB ((HW.out.1.below H1.out).below H14.out.1.O) (by omega)
        clear f1 f2 hn14 hs14 hG14 hDv hcr hD14 hO14
        go_wp2_with fail
        refine hmn.mono ?_
        rintro e w15 ⟨v15, rfl, _, hm15, _, hO15⟩
        have H15 := Lib.hid (And.intro (H14.out.1.below hO15) (And.intro (H14.out.2.1.below hO15) (And.intro (H14.out.2.2.below hO15) hm15)))
        clear hmn hm15 hO15
        have hmn := H15.out.2.2.1.mount H3.out.1.hB ((HW.out.1.below H1.out).below H15.out.1.O) (by omega)
        go_wp2_with fail
        refine hmn.mono ?_
        rintro e w16 ⟨v16, rfl, _, hm16, _, hO16⟩
        have H16 := Lib.hid (And.intro (H15.out.1.below hO16) (And.intro (H15.out.2.1.below hO16) (And.intro (H15.out.2.2.2.below hO16) hm16)))
        clear hmn hm16 hO16
        have hco := commits_any v15 d14 m2 (n + 1) false w16 H16.out.2.2.1.V
        have hco2 := commits_any v16 d9 m2 (n + 1) false w16 H16.out.2.2.2.V
        go_wp2_with fail
        refine hco.mono ?_
        rintro e w' ⟨rfl, rfl⟩
        go_wp2_with fail
        refine hco2.mono ?_
        rintro e w' ⟨rfl, rfl⟩
        clear hco hco2
        have hi3 := H16.out.2.2.1.is_good (A := A8) (m := m8) (c := c8) H16.out.2.1 H6.out.1 H3.out.1.hB (by omega)
        go_wp2_with fail
        refine hi3.mono ?_
        rintro e w17 ⟨rfl, hO17⟩
        have H17 := Lib.hid (And.intro (H16.out.1.below hO17) (And.intro (H16.out.2.1.below hO17) (H16.out.2.2.2.below hO17)))
        clear hi3 hO17
        have hi4 := H17.out.2.2.is_good (A := A8) (m := m8) (c := c8) H17.out.2.1 H6.out.1 H3.out.1.hB (by omega)
        go_wp2_with fail
        refine hi4.mono ?_
        rintro e w18 ⟨rfl, hO18⟩
        have H18 := Lib.hid (Old.trans H1.out (H17.out.1.below hO18).O)
        clear hi4 hO18
        go_wp2_with fail
        go_ret
        exact ⟨rfl, H18.out⟩
  · have hFd : decide (F < 0) = false := decide_eq_false hFn
    obtain ⟨k, rfl⟩ : ∃ k : Nat, F = k := ⟨F.toNat, by omega⟩
    obtain ⟨q, hq⟩ : ∃ q, (k : Int).tmod 40 = q := ⟨_, rfl⟩
    obtain ⟨r2, hr2⟩ : ∃ r2, (k : Int).tmod 2 = r2 := ⟨_, rfl⟩
    obtain ⟨r3, hr3⟩ : ∃ r3, (k : Int).tmod 3 = r3 := ⟨_, rfl⟩
    obtain ⟨a2, ha2⟩ : ∃ a2, (r2 == 0) = a2 := ⟨_, rfl⟩
    obtain ⟨a3, ha3⟩ : ∃ a3, (r3 == 0) = a3 := ⟨_, rfl⟩
    have HQ := Lib.hid (show q < 1000 by rw [← hq, Int.tmod_eq_emod_of_nonneg (by omega)]; omega)
    clear hF0 hF1
    go_wp2_with fail
    clear hFd hFn
    have hfu := dk_fuse d L s q w3 H3.out.1.D
    refine hfu.mono ?_
    rintro e w4 ⟨rfl, hD4, hT4⟩
    have hT4' : Turn [d, L, v] w3 w4 := hT4.more (by simp)
    have hG4 := good_fuse H3.out.1.G q
    have hF4 := fok_fuse H3.out.1.F H3.out.1.de q HQ.out
    have hn4 := fuse_n s q
    obtain ⟨s4, hs4⟩ : ∃ s4, s.fuse q = s4 := ⟨_, rfl⟩
    rw [hs4] at hD4 hG4 hF4 hn4
    rw [H3.out.1.sn] at hn4
    obtain ⟨hO4, hM4, hP4⟩ := H3.out.1.turned hT4'
    have hV4 : VolB w4 v d m2 n false := Blk.turn H3.out.1.V hT4 (by
      obtain ⟨⟨_, k1⟩, _, k2⟩ := H3.out.1.D.typed
      intro hv
      rcases List.mem_cons.1 hv with rfl | hv
      · exact Blk.ne_ k1 H3.out.1.V (by decide) rfl
      · rw [List.mem_singleton] at hv
        subst hv
        exact Blk.ne_ k2 H3.out.1.V (by decide) rfl)
    have hK4 := (HW.out.1.below H1.out).below hO4
    have hP4' := hP4 _ _ _ H3.out.2
    have hcm := commit_two v d L m2 n (1000 * 6 + 4) w2.heap.size A7 ps.length c7 ps s4 _ w4 hV4 hD4 hK4 hP4' hG4 (by rw [hn4, H3.out.1.hB]) (by omega) hF4 (by omega)
    have hlen8 : (after (rs.map (·.l)) (ps.map toPut)).length = (s4.n - 8) / 2 := by rw [after_len, List.length_map, H3.out.1.len, hn4, H3.out.1.hB]
    obtain ⟨ok, s5, hs5⟩ : ∃ ok s5, s4.turnW headB n (after (rs.map (·.l)) (ps.map toPut)) = (ok, s5) := ⟨_, _, rfl⟩
    have htc := turn_crash hG4 hF4 hlen8 hs5
    unfold ComPost at hcm
    rw [hs5] at hcm
    rw [hn4] at htc
    have H4 := Lib.hid (And.intro hO4 (And.intro hM4 (And.intro hP4' htc.1)))
    have HT4 := Lib.hid (show ∀ w5, Turn [d, L, v] w4 w5 → Old w1 w5 ∧ ModAt w5 w1.heap.size (.slice A2 m2 c2) rs ∧ PutsOwn w5 w2.heap.size (.slice A7 ps.length c7) ps from fun w5 h5 => by
      obtain ⟨i1, i2, i3⟩ := H3.out.1.turned (hT4'.trans h5 (fun x hx => .inl hx))
      exact ⟨i1, i2, i3 _ _ _ H3.out.2⟩)
    clear hfu hD4 hT4 hT4' hG4 hF4 hn4 hs4 hO4 hM4 hP4 hV4 hK4 hP4' hlen8 hs5
    cases ok with
    | false =>
      have HX5 := Lib.hid (htc.2.1 rfl)
      have HY5 := Lib.hid htc.2.2.2
      clear htc
      go_wp2_with fail
      refine hcm.mono ?_
      rintro e w5 (⟨hx, _⟩ | ⟨_, hx, _⟩ | ⟨_, _, rfl, hD5, hV5, hT5⟩)
      · rw [HM.out.1] at hx; cases hx
      · have := HM.out.2; rw [hx] at this; simp at this
      obtain ⟨hO5, hM5, hP5⟩ := HT4.out w5 hT5
      have haf := H3.out.1.after_call (w' := w5) hM5 hO5 H2.out.O.size hP5 HM.out.1
      have H5 := Lib.hid (show MdT w1 w5 Z d L v m2 _ _ s5 A2 m2 c2 rs from ⟨hD5, hV5, hM5, hO5, H4.out.2.2.2⟩)
      clear hcm hD5 hV5 hT5 hO5 hM5 hP5
      go_wp2_with fail
      refine haf.mono ?_
      rintro e w6 ⟨A8, m8, c8, rs8, rfl, hM8, hrs8, hO8⟩
      have H6 := Lib.hid (And.intro hrs8 (And.intro (H5.out.below hO8) hM8))
      clear haf hM8 hrs8 hO8
      have hix := is_side v d L n m2 true s5 A2 m2 c2 _ rs w6 H6.out.2.1.V H6.out.2.1.D H6.out.2.1.M (by rw [H6.out.2.1.sn]; exact hSa) (by rw [H6.out.2.1.sn]; omega) H3.out.1.len (by rw [H6.out.2.1.sn, H3.out.1.hB]) (by omega)
      rw [HX5.out] at hix
      go_wp2_with fail
      refine hix.mono ?_
      rintro e w7 ⟨rfl, hO7⟩
      have H7 := Lib.hid (And.intro (H6.out.2.1.below hO7) (H6.out.2.2.below hO7))
      have hkp := keeper_two Ak mk ck ks a2 w7 HW.out.2.2.2.1 ((HW.out.2.2.2.2.below H1.out).below H7.out.1.O)
      clear hO7
      go_wp2_with fail
      refine hkp.mono ?_
      rintro e w8 ⟨bx, rfl, hk8, hO8⟩
      have hcr := dk_keep bx Ak ck ks a2 HB2.out (H7.out.1.D.below hO8) hk8
      have H8 := Lib.hid (And.intro (H7.out.1.below hO8) (H7.out.2.below hO8))
      clear hkp hk8 hO8
      go_wp2_with fail
      refine hcr.mono ?_
      rintro e w9 ⟨d9, L9, rfl, hD9, hd9, hL9, hO9⟩
      have H9 := Lib.hid (And.intro (H8.out.1.below hO9) (And.intro (H8.out.2.below hO9) hD9))
      clear hcr hD9 hd9 hL9 hO9
      rcases HY5.out (keptB ks a2) with g9 | g9
      · obtain ⟨f1, f2, _⟩ := crash_fresh s5 (keptB ks a2)
        have hn9 := crash_n s5 (keptB ks a2)
        obtain ⟨s9, hs9⟩ : ∃ s9, s5.crash (keptB ks a2) = s9 := ⟨_, rfl⟩
        have hDv : Dev w9 d9 L9 n s9 Z (rs.map (·.l)) := ⟨by rw [← hs9]; exact H9.out.2.2, by rw [← hs9]; exact g9, by rw [← hs9, hn9]; exact H4.out.2.2.2, by rw [← hs9]; exact f2, by rw [← hs9]; exact f1⟩
        have hmn := hDv.mount H3.out.1.hB ((HW.out.1.below H1.out).below H9.out.1.O) (by omega)
        clear f1 f2 hn9 hs9 g9 hDv
        go_wp2_with fail
        refine hmn.mono ?_
        rintro e w10 ⟨v10, rfl, _, hm10, hd10, hO10⟩
        have H10 := Lib.hid (And.intro (H9.out.1.below hO10) (And.intro (H9.out.2.1.below hO10) (And.intro hm10 hd10)))
        have hco := commits_any v10 d9 m2 n false w10 hm10.V
        clear hmn hm10 hd10 hO10
        go_wp2_with fail
        refine hco.mono ?_
        rintro e w' ⟨rfl, rfl⟩
        have hi1 := H10.out.2.2.1.is_good H10.out.1.M rfl H3.out.1.hB (by omega)
        clear hco
        go_wp2_with fail
        refine hi1.mono ?_
        rintro e w11 ⟨rfl, hO11⟩
        have H11 := Lib.hid (And.intro (H10.out.1.below hO11) (And.intro (H10.out.2.1.below hO11) (And.intro (H10.out.2.2.1.below hO11) (H10.out.2.2.2.below hO11))))
        clear hi1 hO11
        have hi2 := H11.out.2.2.1.is_any (A := A8) (m := m8) (c := c8) H11.out.2.1 (by have := congrArg List.length H6.out.1; rw [after_len, List.length_map, List.length_map, H3.out.1.len] at this; exact this) H3.out.1.hB (by omega)
        obtain ⟨b2, hb2⟩ : ∃ b2, isM s9 n (rs8.map (·.l)) = b2 := ⟨_, rfl⟩
        rw [hb2] at hi2
        clear hb2
        cases b2
        all_goals
          go_wp2_with fail
          refine hi2.mono ?_
          rintro e w12 ⟨rfl, hO12⟩
          have H12 := Lib.hid (And.intro (H11.out.1.below hO12) (And.intro (H11.out.2.1.below hO12) (H11.out.2.2.2.below hO12)))
          clear hi2 hO12
          have hkp := keeper_two Ak mk ck ks a3 w12 HW.out.2.2.2.1 ((HW.out.2.2.2.2.below H1.out).below H12.out.1.O)
          go_wp2_with fail
          refine hkp.mono ?_
          rintro e w13 ⟨bx3, rfl, hk13, hO13⟩
          have hcr := dk_keep bx3 Ak ck ks a3 HB2.out (H12.out.2.2.D.below hO13) hk13
          have H13 := Lib.hid (And.intro (H12.out.1.below hO13) (And.intro (H12.out.2.1.below hO13) (H12.out.2.2.below hO13)))
          clear hkp hk13 hO13
          go_wp2_with fail
          refine hcr.mono ?_
          rintro e w14 ⟨d14, L14, rfl, hD14, _, _, hO14⟩
          obtain ⟨f1, f2, _⟩ := crash_fresh s9 (keptB ks a3)
          have hn14 := crash_n s9 (keptB ks a3)
          have hG14 := H13.out.2.2.G.crash (keptB ks a3)
          obtain ⟨s14, hs14⟩ : ∃ s14, s9.crash (keptB ks a3) = s14 := ⟨_, rfl⟩
          have hDv : Dev w14 d14 L14 n s14 Z (rs.map (·.l)) := ⟨by rw [← hs14]; exact hD14, by rw [← hs14]; exact hG14, by rw [← hs14, hn14]; exact H13.out.2.2.sn, by rw [← hs14]; exact f2, by rw [← hs14]; exact f1⟩
          have H14 := Lib.hid (And.intro (H13.out.1.below hO14) (And.intro (H13.out.2.1.below hO14) (H13.out.2.2.below hO14)))
          have hmn := hDv.mount H3.out.1.hB ((HW.out.1.below H1.out).below H14.out.1.O) (by omega)
          clear f1 f2 hn14 hs14 hG14 hDv hcr hD14 hO14
          go_wp2_with fail
          refine hmn.mono ?_
          rintro e w15 ⟨v15, rfl, _, hm15, _, hO15⟩
          have H15 := Lib.hid (And.intro (H14.out.1.below hO15) (And.intro (H14.out.2.1.below hO15) (And.intro (H14.out.2.2.below hO15) hm15)))
          clear hmn hm15 hO15
          have hmn := H15.out.2.2.1.mount H3.out.1.hB ((HW.out.1.below H1.out).below H15.out.1.O) (by omega)
          go_wp2_with fail
          refine hmn.mono ?_
          rintro e w16 ⟨v16, rfl, _, hm16, _, hO16⟩
          have H16 := Lib.hid (And.intro (H15.out.1.below hO16) (And.intro (H15.out.2.1.below hO16) (And.intro (H15.out.2.2.2.below hO16) hm16)))
          clear hmn hm16 hO16
          have hco := commits_any v15 d14 m2 n false w16 H16.out.2.2.1.V
          have hco2 := commits_any v16 d9 m2 n false w16 H16.out.2.2.2.V
          go_wp2_with fail
          refine hco.mono ?_
          rintro e w' ⟨rfl, rfl⟩
          go_wp2_with fail
          refine hco2.mono ?_
          rintro e w' ⟨rfl, rfl⟩
          clear hco hco2
          have hi3 := H16.out.2.2.1.is_good (A := A2) (m := m2) (c := c2) H16.out.1.M rfl H3.out.1.hB (by omega)
          go_wp2_with fail
          refine hi3.mono ?_
          rintro e w17 ⟨rfl, hO17⟩
          have H17 := Lib.hid (And.intro (H16.out.1.below hO17) (And.intro (H16.out.2.1.below hO17) (H16.out.2.2.2.below hO17)))
          clear hi3 hO17
          have hi4 := H17.out.2.2.is_good (A := A2) (m := m2) (c := c2) H17.out.1.M rfl H3.out.1.hB (by omega)
          go_wp2_with fail
          refine hi4.mono ?_
          rintro e w18 ⟨rfl, hO18⟩
          have H18 := Lib.hid (Old.trans H1.out (H17.out.1.below hO18).O)
          clear hi4 hO18
          go_wp2_with fail
          go_ret
          exact ⟨rfl, H18.out⟩
      · obtain ⟨f1, f2, _⟩ := crash_fresh s5 (keptB ks a2)
        have hn9 := crash_n s5 (keptB ks a2)
        obtain ⟨s9, hs9⟩ : ∃ s9, s5.crash (keptB ks a2) = s9 := ⟨_, rfl⟩
        have hDv : Dev w9 d9 L9 (n + 1) s9 Z (after (rs.map (·.l)) (ps.map toPut)) := ⟨by rw [← hs9]; exact H9.out.2.2, by rw [← hs9]; exact g9, by rw [← hs9, hn9]; exact H4.out.2.2.2, by rw [← hs9]; exact f2, by rw [← hs9]; exact f1⟩
        have hmn := hDv.mount H3.out.1.hB ((HW.out.1.below H1.out).below H9.out.1.O) (by omega)
        clear f1 f2 hn9 hs9 g9 hDv
        go_wp2_with fail
        refine hmn.mono ?_
        rintro e w10 ⟨v10, rfl, _, hm10, hd10, hO10⟩
        have H10 := Lib.hid (And.intro (H9.out.1.below hO10) (And.intro (H9.out.2.1.below hO10) (And.intro hm10 hd10)))
        have hco := commits_any v10 d9 m2 (n + 1) false w10 hm10.V
        clear hmn hm10 hd10 hO10
        go_wp2_with fail
        refine hco.mono ?_
        rintro e w' ⟨rfl, rfl⟩
        have hi1 := H10.out.2.2.1.is_any H10.out.1.M H3.out.1.len H3.out.1.hB (by omega)
        obtain ⟨b2, hb2⟩ : ∃ b2, isM s9 (n + 1) (rs.map (·.l)) = b2 := ⟨_, rfl⟩
        rw [hb2] at hi1
        clear hb2
        cases b2
        all_goals
          clear hco
          go_wp2_with fail
          refine hi1.mono ?_
          rintro e w11 ⟨rfl, hO11⟩
          have H11 := Lib.hid (And.intro (H10.out.1.below hO11) (And.intro (H10.out.2.1.below hO11) (And.intro (H10.out.2.2.1.below hO11) (H10.out.2.2.2.below hO11))))
          clear hi1 hO11
          have hi2 := H11.out.2.2.1.is_good (A := A8) (m := m8) (c := c8) H11.out.2.1 H6.out.1 H3.out.1.hB (by omega)
          go_wp2_with fail
          refine hi2.mono ?_
          rintro e w12 ⟨rfl, hO12⟩
          have H12 := Lib.hid (And.intro (H11.out.1.below hO12) (And.intro (H11.out.2.1.below hO12) (H11.out.2.2.2.below hO12)))
          clear hi2 hO12
          have hkp := keeper_two Ak mk ck ks a3 w12 HW.out.2.2.2.1 ((HW.out.2.2.2.2.below H1.out).below H12.out.1.O)
          go_wp2_with fail
          refine hkp.mono ?_
          rintro e w13 ⟨bx3, rfl, hk13, hO13⟩
          have hcr := dk_keep bx3 Ak ck ks a3 HB2.out (H12.out.2.2.D.below hO13) hk13
          have H13 := Lib.hid (And.intro (H12.out.1.below hO13) (And.intro (H12.out.2.1.below hO13) (H12.out.2.2.below hO13)))
          clear hkp hk13 hO13
          go_wp2_with fail
          refine hcr.mono ?_
          rintro e w14 ⟨d14, L14, rfl, hD14, _, _, hO14⟩
          obtain ⟨f1, f2, _⟩ := crash_fresh s9 (keptB ks a3)
          have hn14 := crash_n s9 (keptB ks a3)
          have hG14 := H13.out.2.2.G.crash (keptB ks a3)
          obtain ⟨s14, hs14⟩ : ∃ s14, s9.crash (keptB ks a3) = s14 := ⟨_, rfl⟩
          have hDv : Dev w14 d14 L14 (n + 1) s14 Z (after (rs.map (·.l)) (ps.map toPut)) := ⟨by rw [← hs14]; exact hD14, by rw [← hs14]; exact hG14, by rw [← hs14, hn14]; exact H13.out.2.2.sn, by rw [← hs14]; exact f2, by rw [← hs14]; exact f1⟩
          have H14 := Lib.hid (And.intro (H13.out.1.below hO14) (And.intro (H13.out.2.1.below hO14) (H13.out.2.2.below hO14)))
          have hmn := hDv.mount H3.out.1.hB ((HW.out.1.below H1.out).below H14.out.1.O) (by omega)
          clear f1 f2 hn14 hs14 hG14 hDv hcr hD14 hO14
          go_wp2_with fail
          refine hmn.mono ?_
          rintro e w15 ⟨v15, rfl, _, hm15, _, hO15⟩
          have H15 := Lib.hid (And.intro (H14.out.1.below hO15) (And.intro (H14.out.2.1.below hO15) (And.intro (H14.out.2.2.below hO15) hm15)))
          clear hmn hm15 hO15
          have hmn := H15.out.2.2.1.mount H3.out.1.hB ((HW.out.1.below H1.out).below H15.out.1.O) (by omega)
          go_wp2_with fail
          refine hmn.mono ?_
          rintro e w16 ⟨v16, rfl, _, hm16, _, hO16⟩
          have H16 := Lib.hid (And.intro (H15.out.1.below hO16) (And.intro (H15.out.2.1.below hO16) (And.intro (H15.out.2.2.2.below hO16) hm16)))
          clear hmn hm16 hO16
          have hco := commits_any v15 d14 m2 (n + 1) false w16 H16.out.2.2.1.V
          have hco2 := commits_any v16 d9 m2 (n + 1) false w16 H16.out.2.2.2.V
          go_wp2_with fail
          refine hco.mono ?_
          rintro e w' ⟨rfl, rfl⟩
          go_wp2_with fail
          refine hco2.mono ?_
          rintro e w' ⟨rfl, rfl⟩
          clear hco hco2
          have hi3 := H16.out.2.2.1.is_good (A := A8) (m := m8) (c := c8) H16.out.2.1 H6.out.1 H3.out.1.hB (by omega)
          go_wp2_with fail
          refine hi3.mono ?_
          rintro e w17 ⟨rfl, hO17⟩
          have H17 := Lib.hid (And.intro (H16.out.1.below hO17) (And.intro (H16.out.2.1.below hO17) (H16.out.2.2.2.below hO17)))
          clear hi3 hO17
          have hi4 := H17.out.2.2.is_good (A := A8) (m := m8) (c := c8) H17.out.2.1 H6.out.1 H3.out.1.hB (by omega)
          go_wp2_with fail
          refine hi4.mono ?_
          rintro e w18 ⟨rfl, hO18⟩
          have H18 := Lib.hid (Old.trans H1.out (H17.out.1.below hO18).O)
          clear hi4 hO18
          go_wp2_with fail
          go_ret
          exact ⟨rfl, H18.out⟩
    | true =>
      have HY5 := Lib.hid (htc.2.2.1 rfl)
      clear htc
      go_wp2_with fail
      refine hcm.mono ?_
      rintro e w5 (⟨hx, _⟩ | ⟨_, hx, _⟩ | ⟨_, _, rfl, hD5, hV5, hT5⟩)
      · rw [HM.out.1] at hx; cases hx
      · have := HM.out.2; rw [hx] at this; simp at this
      obtain ⟨hO5, hM5, hP5⟩ := HT4.out w5 hT5
      have haf := H3.out.1.after_call (w' := w5) hM5 hO5 H2.out.O.size hP5 HM.out.1
      have H5 := Lib.hid (show MdT w1 w5 Z d L v m2 _ _ s5 A2 m2 c2 rs from ⟨hD5, hV5, hM5, hO5, H4.out.2.2.2⟩)
      clear hcm hD5 hV5 hT5 hO5 hM5 hP5
      go_wp2_with fail
      refine haf.mono ?_
      rintro e w6 ⟨A8, m8, c8, rs8, rfl, hM8, hrs8, hO8⟩
      have H6 := Lib.hid (And.intro hrs8 (And.intro (H5.out.below hO8) hM8))
      clear haf hM8 hrs8 hO8
      obtain ⟨w7, hw7⟩ : ∃ w7, w7 = w6 := ⟨_, rfl⟩
      subst hw7
      have hO7 := Old.refl w7
      have H7 := Lib.hid (And.intro (H6.out.2.1.below hO7) (H6.out.2.2.below hO7))
      have hkp := keeper_two Ak mk ck ks a2 w7 HW.out.2.2.2.1 ((HW.out.2.2.2.2.below H1.out).below H7.out.1.O)
      clear hO7
      go_wp2_with fail
      refine hkp.mono ?_
      rintro e w8 ⟨bx, rfl, hk8, hO8⟩
      have hcr := dk_keep bx Ak ck ks a2 HB2.out (H7.out.1.D.below hO8) hk8
      have H8 := Lib.hid (And.intro (H7.out.1.below hO8) (H7.out.2.below hO8))
      clear hkp hk8 hO8
      go_wp2_with fail
      refine hcr.mono ?_
      rintro e w9 ⟨d9, L9, rfl, hD9, hd9, hL9, hO9⟩
      have H9 := Lib.hid (And.intro (H8.out.1.below hO9) (And.intro (H8.out.2.below hO9) hD9))
      clear hcr hD9 hd9 hL9 hO9
      have g9 := HY5.out (keptB ks a2)
      obtain ⟨f1, f2, _⟩ := crash_fresh s5 (keptB ks a2)
      have hn9 := crash_n s5 (keptB ks a2)
      obtain ⟨s9, hs9⟩ : ∃ s9, s5.crash (keptB ks a2) = s9 := ⟨_, rfl⟩
      have hDv : Dev w9 d9 L9 (n + 1) s9 Z (after (rs.map (·.l)) (ps.map toPut)) := ⟨by rw [← hs9]; exact H9.out.2.2, by rw [← hs9]; exact g9, by rw [← hs9, hn9]; exact H4.out.2.2.2, by rw [← hs9]; exact f2, by rw [← hs9]; exact f1⟩
      have hmn := hDv.mount H3.out.1.hB ((HW.out.1.below H1.out).below H9.out.1.O) (by omega)
      clear f1 f2 hn9 hs9 g9 hDv
      go_wp2_with fail
      refine hmn.mono ?_
      rintro e w10 ⟨v10, rfl, _, hm10, hd10, hO10⟩
      have H10 := Lib.hid (And.intro (H9.out.1.below hO10) (And.intro (H9.out.2.1.below hO10) (And.intro hm10 hd10)))
      have hco := commits_any v10 d9 m2 (n + 1) false w10 hm10.V
      clear hmn hm10 hd10 hO10
      go_wp2_with fail
      refine hco.mono ?_
      rintro e w' ⟨rfl, rfl⟩
      have hi1 := H10.out.2.2.1.is_any H10.out.1.M H3.out.1.len H3.out.1.hB (by omega)
      obtain ⟨b2, hb2⟩ : ∃ b2, isM s9 (n + 1) (rs.map (·.l)) = b2 := ⟨_, rfl⟩
      rw [hb2] at hi1
      clear hb2
      cases b2
      all_goals
        clear hco
        go_wp2_with fail
        refine hi1.mono ?_
        rintro e w11 ⟨rfl, hO11⟩
        have H11 := Lib.hid (And.intro (H10.out.1.below hO11) (And.intro (H10.out.2.1.below hO11) (And.intro (H10.out.2.2.1.below hO11) (H10.out.2.2.2.below hO11))))
        clear hi1 hO11
        have hi2 := H11.out.2.2.1.is_good (A := A8) (m := m8) (c := c8) H11.out.2.1 H6.out.1 H3.out.1.hB (by omega)
        go_wp2_with fail
        refine hi2.mono ?_
        rintro e w12 ⟨rfl, hO12⟩
        have H12 := Lib.hid (And.intro (H11.out.1.below hO12) (And.intro (H11.out.2.1.below hO12) (H11.out.2.2.2.below hO12)))
        clear hi2 hO12
        have hkp := keeper_two Ak mk ck ks a3 w12 HW.out.2.2.2.1 ((HW.out.2.2.2.2.below H1.out).below H12.out.1.O)
        go_wp2_with fail
        refine hkp.mono ?_
        rintro e w13 ⟨bx3, rfl, hk13, hO13⟩
        have hcr := dk_keep bx3 Ak ck ks a3 HB2.out (H12.out.2.2.D.below hO13) hk13
        have H13 := Lib.hid (And.intro (H12.out.1.below hO13) (And.intro (H12.out.2.1.below hO13) (H12.out.2.2.below hO13)))
        clear hkp hk13 hO13
        go_wp2_with fail
        refine hcr.mono ?_
        rintro e w14 ⟨d14, L14, rfl, hD14, _, _, hO14⟩
        obtain ⟨f1, f2, _⟩ := crash_fresh s9 (keptB ks a3)
        have hn14 := crash_n s9 (keptB ks a3)
        have hG14 := H13.out.2.2.G.crash (keptB ks a3)
        obtain ⟨s14, hs14⟩ : ∃ s14, s9.crash (keptB ks a3) = s14 := ⟨_, rfl⟩
        have hDv : Dev w14 d14 L14 (n + 1) s14 Z (after (rs.map (·.l)) (ps.map toPut)) := ⟨by rw [← hs14]; exact hD14, by rw [← hs14]; exact hG14, by rw [← hs14, hn14]; exact H13.out.2.2.sn, by rw [← hs14]; exact f2, by rw [← hs14]; exact f1⟩
        have H14 := Lib.hid (And.intro (H13.out.1.below hO14) (And.intro (H13.out.2.1.below hO14) (H13.out.2.2.below hO14)))
        have hmn := hDv.mount H3.out.1.hB ((HW.out.1.below H1.out).below H14.out.1.O) (by omega)
        clear f1 f2 hn14 hs14 hG14 hDv hcr hD14 hO14
        go_wp2_with fail
        refine hmn.mono ?_
        rintro e w15 ⟨v15, rfl, _, hm15, _, hO15⟩
        have H15 := Lib.hid (And.intro (H14.out.1.below hO15) (And.intro (H14.out.2.1.below hO15) (And.intro (H14.out.2.2.below hO15) hm15)))
        clear hmn hm15 hO15
        have hmn := H15.out.2.2.1.mount H3.out.1.hB ((HW.out.1.below H1.out).below H15.out.1.O) (by omega)
        go_wp2_with fail
        refine hmn.mono ?_
        rintro e w16 ⟨v16, rfl, _, hm16, _, hO16⟩
        have H16 := Lib.hid (And.intro (H15.out.1.below hO16) (And.intro (H15.out.2.1.below hO16) (And.intro (H15.out.2.2.2.below hO16) hm16)))
        clear hmn hm16 hO16
        have hco := commits_any v15 d14 m2 (n + 1) false w16 H16.out.2.2.1.V
        have hco2 := commits_any v16 d9 m2 (n + 1) false w16 H16.out.2.2.2.V
        go_wp2_with fail
        refine hco.mono ?_
        rintro e w' ⟨rfl, rfl⟩
        go_wp2_with fail
        refine hco2.mono ?_
        rintro e w' ⟨rfl, rfl⟩
        clear hco hco2
        have hi3 := H16.out.2.2.1.is_good (A := A8) (m := m8) (c := c8) H16.out.2.1 H6.out.1 H3.out.1.hB (by omega)
        go_wp2_with fail
        refine hi3.mono ?_
        rintro e w17 ⟨rfl, hO17⟩
        have H17 := Lib.hid (And.intro (H16.out.1.below hO17) (And.intro (H16.out.2.1.below hO17) (H16.out.2.2.2.below hO17)))
        clear hi3 hO17
        have hi4 := H17.out.2.2.is_good (A := A8) (m := m8) (c := c8) H17.out.2.1 H6.out.1 H3.out.1.hB (by omega)
        go_wp2_with fail
        refine hi4.mono ?_
        rintro e w18 ⟨rfl, hO18⟩
        have H18 := Lib.hid (Old.trans H1.out (H17.out.1.below hO18).O)
        clear hi4 hO18
        go_wp2_with fail
        go_ret
        exact ⟨rfl, H18.out⟩
end Go.Proofs.YtomngfihaohgdaaDoor
namespace Go.Proofs.YtomngfihaohgdaaDoor
set_option maxRecDepth 100000
open Go.RowKit

theorem DkAt.turn {w w' : World} {d L : Nat} {s : Dsk} {S : List Nat} (h : DkAt w d L s) (ht : Turn S w w') (hd : d ∉ S) (hL : L ∉ S) (hS : ∀ g ∈ S, ∃ t cs, Blk w g t cs ∧ t ≠ 5) : DkAt w' d L s := by
  obtain ⟨xs, h⟩ := h
  exact ⟨xs, h.turn ht hd hL hS⟩
theorem Mnt.turn {w w' : World} {d L v B n S : Nat} {s : Dsk} {ms : List (List UInt8)} {T : List Nat} (h : Mnt w d L v B n s S ms) (ht : Turn T w w') (hd : d ∉ T) (hL : L ∉ T) (hv : v ∉ T) (hS : ∀ g ∈ T, ∃ t cs, Blk w g t cs ∧ t ≠ 5) : Mnt w' d L v B n s S ms :=
  ⟨h.D.turn ht hd hL hS, Blk.turn h.V ht hv, h.G, h.sn, h.de, h.fu⟩
theorem Mnt.lt {w : World} {d L v B n S : Nat} {s : Dsk} {ms : List (List UInt8)} (h : Mnt w d L v B n s S ms) : d < w.heap.size ∧ L < w.heap.size ∧ v < w.heap.size := ⟨h.D.lt.1, h.D.lt.2, Blk.lt h.V⟩
theorem Mnt.types {w : World} {d L v B n S : Nat} {s : Dsk} {ms : List (List UInt8)} (h : Mnt w d L v B n s S ms) : ∀ g ∈ [d, L, v], ∃ t cs, Blk w g t cs ∧ t ≠ 5 ∧ t ≠ 40 ∧ t ≠ 42 := by
  intro g hg
  obtain ⟨⟨c1, h1⟩, c2, h2⟩ := h.D.typed
  rcases List.mem_cons.1 hg with rfl | hg
  · exact ⟨_, _, h1, by decide, by decide, by decide⟩
  rcases List.mem_cons.1 hg with rfl | hg
  · exact ⟨_, _, h2, by decide, by decide, by decide⟩
  rw [List.mem_singleton] at hg
  subst hg
  exact ⟨_, _, h.V, by decide, by decide, by decide⟩
def rowB (ms : List (List UInt8)) (i : Nat) : List UInt8 := (ms[i]?).getD []
theorem Mnt.read {w : World} {d L v B n S : Nat} {s : Dsk} {ms : List (List UInt8)} (h : Mnt w d L v B n s S ms) (hB : (S - 8) / 2 = B) (hn : n ≤ 100) (i : Nat) (hi : i < B) :
    Calls Tryd.prog 19 #[.pointer (some ⟨v, 0, none⟩), .int .i64 (i : Int)] w fun e w' =>
      ∃ g c', e = .returned (.slice (some ⟨g, 0, none⟩) 256 c') ∧ Own w' w.heap.size (.slice (some ⟨g, 0, none⟩) 256 c') (rowB ms i) ∧ Old w w' := by
  have hsB : (s.n - 8) / 2 = B := by rw [h.sn, hB]
  have h60 := h.G.n60
  have hsd := side_in (n := s.n) (c := n) h.G.n16
  rw [hsB] at hsd
  refine (volread_any v d L B n false s w h.V h.D (by omega) (by omega) hsd i hi).mono ?_
  rintro e w' ⟨g, c', rfl, h1, _, h2⟩
  obtain ⟨b, hb⟩ : ∃ b, ms[i]? = some b := ⟨_, List.getElem?_eq_getElem (by rw [h.G.len, hsB]; exact hi)⟩
  have h3 := (h.G.side i b hb).1
  rw [hsB] at h3
  rw [h3] at h1
  refine ⟨g, c', rfl, ?_, h2⟩
  unfold rowB
  rw [hb]
  exact h1
theorem mount_some {w : World} {d L n S : Nat} {s : Dsk} {ms : List (List UInt8)} (hD : DkAt w d L s) (hG : Good headB s n ms) (hK : KAt w) (hn : n ≤ 100) :
    Calls Tryd.prog 14 #[.pointer (some ⟨d, 0, none⟩)] w fun e w' => ∃ a b, e = .returned (.tuple #[a, b]) ∧ Old w w' := by
  cases hd : s.dead with
  | true =>
    refine (mount_dead d L s w hD hG.n16 hd).mono ?_
    rintro e w' ⟨rfl, rfl⟩
    exact ⟨_, _, rfl, Old.refl _⟩
  | false =>
    refine (mount_good d L s n ms w hD hG (by omega) hd hK).mono ?_
    rintro e w' ⟨v, rfl, _, _, h⟩
    exact ⟨_, _, rfl, h⟩
/-- A commit on a mounted device. -/
theorem Mnt.commit {w : World} {d L v B n S : Nat} {s : Dsk} {ms : List (List UInt8)} (h : Mnt w d L v B n s S ms) (hB : (S - 8) / 2 = B) (hK : KAt w) (hn : n ≤ 100) (hf : FOk s 0) {base : Nat} {A : Option Addr} {cp : Nat} {ps : List PutV} (hP : PutsOwn w base (.slice A ps.length cp) ps)
    (hm : mayP B ps = true) (h0 : 0 < ps.length) :
    Calls Tryd.prog 17 #[.pointer (some ⟨v, 0, none⟩), .slice A ps.length cp] w fun e w' => ∃ s', e = .returned (.int .i64 0) ∧ Mnt w' d L v B (n + 1) s' S (after ms (ps.map toPut)) ∧ Turn [d, L, v] w w' := by
  refine (commit_two v d L B n 0 base A ps.length cp ps s ms w h.V h.D hK hP h.G (by rw [h.sn, hB]) (by omega) hf (by omega)).mono ?_
  obtain ⟨s', h1, h2, _, h4, h5, h6⟩ := turn_live (m2 := after ms (ps.map toPut)) h.G hf h.fu h.de (by rw [after_len]; exact h.G.len)
  rintro e w' (⟨hx, _⟩ | ⟨_, hx, _⟩ | ⟨_, _, rfl, hD5, hV5, hT5⟩)
  · rw [hm] at hx; cases hx
  · rw [hx] at h0; simp at h0
  · rw [h1] at hD5 hV5 ⊢
    simp only [if_true, Bool.not_true] at hD5 hV5 ⊢
    exact ⟨s', trivial, ⟨hD5, hV5, h2, h4.trans h.sn, h6, h5⟩, hT5⟩
theorem eqPtrDk (w : World) (a : Addr) : (binOp .neq 24 (.pointer (some a)) (.pointer none)).run Tryd.prog w = .ok (.bool true) w := by kernel_rfl
set_option maxHeartbeats 4000000 in
theorem fsTwice_walk (S : Int) (A : Option Addr) (N c : Nat) (css : List (List InP)) (Al : Option Addr) (ml cl : Nat) (ins : List InP) (F G : Int) (Ak : Option Addr) (mk ck : Nat) (ks : List Bool) (w : World) (hK : KAt w)
    (hS0 : -9223372036854775808 ≤ S) (hS1 : S ≤ 9223372036854775807) (hN : N ≤ maxLen) (hc : CmAt w A N css) (hml : ml ≤ 3518437208780) (hl : InsAt w Al ml ins)
    (hmk : mk ≤ maxLen) (hk : ks.length = mk ∧ BoolsAt w Ak ks) :
    Calls Tryd.prog 7 #[.int .i64 S, .slice A N c, .slice Al ml cl, .int .i64 F, .int .i64 G, .slice Ak mk ck] w fun e w' => e = .returned (.bool true) ∧ Below w.heap.size w w' := by
  have HW := Lib.hid (And.intro hK (And.intro hc (And.intro hl hk)))
  have HB2 := Lib.hid (show ks.length ≤ 9223372036854775807 by rw [hk.1]; unfold maxLen at hmk; omega)
  have hs := fun W => fsize_any S hS0 hS1 W
  obtain ⟨hSa, hSb⟩ := sizeN_in S
  have hN' : N ≤ 9223372036854775807 := by unfold maxLen at hN; omega
  obtain ⟨Z, hZ⟩ : ∃ Z, sizeN S = Z := ⟨_, rfl⟩
  obtain ⟨B, hB⟩ : ∃ B, (Z - 8) / 2 = B := ⟨_, rfl⟩
  simp only [hZ] at hs
  rw [hZ] at hSa hSb
  clear hK hc hZ hN hl hk hmk
  go_enter Tryd.func7, Tryd.ntmps7
  go_wp2_with fail
  refine (begun_any w HW.out.1).mono ?_
  rintro e w1 ⟨rfl, hb1⟩
  have H1 := Lib.hid hb1
  clear hb1
  go_wp2_with fail
  refine (hs w1).mono ?_
  rintro e w' ⟨rfl, rfl⟩
  have hmd := made_any Z B A N c css w1 (HW.out.1.below H1.out) hSa hSb (HW.out.2.1.below H1.out) hN' hB
  clear hs hB
  go_wp2_with fail
  refine hmd.mono ?_
  rintro e w2 ⟨d, L, v, n, s, A2, m2, c2, rs, rfl, hI⟩
  have hn6 := hI.nk
  obtain rfl := hI.m_eq
  have hm60 : m2 ≤ 100 := by have := hI.hB; omega
  have hpu := puts_any Al ml cl m2 ins w2 ((HW.out.2.2.1.below H1.out).below hI.O) (by have := hI.hB; omega) hml
  have H2 := Lib.hid hI
  have kd := neDk
  have kv := neVol
  have kv' := neVol'
  clear hmd hI hml
  go_wp2_with fail
  refine hpu.mono ?_
  rintro e w3 ⟨A7, c7, ps, rfl, hP, hps, hO3⟩
  obtain rfl : ml = ps.length := hP.1.len
  have hI3 := H2.out.below hO3
  have H3 := Lib.hid (And.intro hI3 hP)
  clear hpu hP hps hO3
  cases hmm : mayP m2 ps with
  | false =>
    go_wp2_with fail
    go_ret
    exact ⟨rfl, Old.trans H1.out H3.out.1.O⟩
  | true =>
  by_cases hp0 : ps.length = 0
  · have hp0d : decide ((ps.length : Int) = 0) = true := decide_eq_true (by omega)
    have hp0e : (ps.length == 0) = true := by simp [hp0]
    go_wp2_with fail
    go_ret
    exact ⟨rfl, Old.trans H1.out H3.out.1.O⟩
  have hp0d : decide ((ps.length : Int) = 0) = false := decide_eq_false (by omega)
  have hp0i : ¬ (ps.length : Int) = 0 := by omega
  have HM := Lib.hid (And.intro hmm (show 0 < ps.length by omega))
  clear hmm hI3
  by_cases hFn : F < 0
  · have hFd : decide (F < 0) = true := decide_eq_true hFn
    go_wp2_with fail
    go_ret
    exact ⟨rfl, Old.trans H1.out H3.out.1.O⟩
  have hFd : decide (F < 0) = false := decide_eq_false hFn
  by_cases hGn : G < 0
  · have hGd : decide (G < 0) = true := decide_eq_true hGn
    go_wp2_with fail
    go_ret
    exact ⟨rfl, Old.trans H1.out H3.out.1.O⟩
  have hGd : decide (G < 0) = false := decide_eq_false hGn
  obtain ⟨k, rfl⟩ : ∃ k : Nat, F = k := ⟨F.toNat, by omega⟩
  obtain ⟨k2, rfl⟩ : ∃ k : Nat, G = k := ⟨G.toNat, by omega⟩
  obtain ⟨q, hq⟩ : ∃ q, (k : Int).tmod 40 = q := ⟨_, rfl⟩
  obtain ⟨q2, hq2⟩ : ∃ q, (k2 : Int).tmod 12 = q := ⟨_, rfl⟩
  obtain ⟨r2, hr2⟩ : ∃ r2, (k : Int).tmod 2 = r2 := ⟨_, rfl⟩
  obtain ⟨r3, hr3⟩ : ∃ r3, (k2 : Int).tmod 2 = r3 := ⟨_, rfl⟩
  obtain ⟨a2, ha2⟩ : ∃ a2, (r2 == 0) = a2 := ⟨_, rfl⟩
  obtain ⟨a3, ha3⟩ : ∃ a3, (r3 == 0) = a3 := ⟨_, rfl⟩
  have HQ := Lib.hid (show q < 1000 by rw [← hq, Int.tmod_eq_emod_of_nonneg (by omega)]; omega)
  go_wp2_with fail
  clear hFd hFn hGd hGn
  have hfu := dk_fuse d L s q w3 H3.out.1.D
  refine hfu.mono ?_
  rintro e w4 ⟨rfl, hD4, hT4⟩
  have hT4' : Turn [d, L, v] w3 w4 := hT4.more (by simp)
  have hG4 := good_fuse H3.out.1.G q
  have hF4 := fok_fuse H3.out.1.F H3.out.1.de q HQ.out
  have hn4 := fuse_n s q
  obtain ⟨s4, hs4⟩ : ∃ s4, s.fuse q = s4 := ⟨_, rfl⟩
  rw [hs4] at hD4 hG4 hF4 hn4
  rw [H3.out.1.sn] at hn4
  obtain ⟨hO4, hM4, hP4⟩ := H3.out.1.turned hT4'
  have hV4 : VolB w4 v d m2 n false := Blk.turn H3.out.1.V hT4 (by
    obtain ⟨⟨_, k1⟩, _, k2⟩ := H3.out.1.D.typed
    intro hv
    rcases List.mem_cons.1 hv with rfl | hv
    · exact Blk.ne_ k1 H3.out.1.V (by decide) rfl
    · rw [List.mem_singleton] at hv
      subst hv
      exact Blk.ne_ k2 H3.out.1.V (by decide) rfl)
  have hK4 := (HW.out.1.below H1.out).below hO4
  have hP4' := hP4 _ _ _ H3.out.2
  have hcm := commit_two v d L m2 n (1000 * 6 + 4) w2.heap.size A7 ps.length c7 ps s4 _ w4 hV4 hD4 hK4 hP4' hG4 (by rw [hn4, H3.out.1.hB]) (by omega) hF4 (by omega)
  have hlen8 : (after (rs.map (·.l)) (ps.map toPut)).length = (s4.n - 8) / 2 := by rw [after_len, List.length_map, H3.out.1.len, hn4, H3.out.1.hB]
  obtain ⟨ok, s5, hs5⟩ : ∃ ok s5, s4.turnW headB n (after (rs.map (·.l)) (ps.map toPut)) = (ok, s5) := ⟨_, _, rfl⟩
  have htc := turn_crash hG4 hF4 hlen8 hs5
  unfold ComPost at hcm
  rw [hs5] at hcm
  rw [hn4] at htc
  have H4 := Lib.hid (And.intro hO4 (And.intro hM4 (And.intro hP4' htc.1)))
  have HT4 := Lib.hid (show ∀ w5, Turn [d, L, v] w4 w5 → Old w1 w5 ∧ ModAt w5 w1.heap.size (.slice A2 m2 c2) rs ∧ PutsOwn w5 w2.heap.size (.slice A7 ps.length c7) ps from fun w5 h5 => by
    obtain ⟨i1, i2, i3⟩ := H3.out.1.turned (hT4'.trans h5 (fun x hx => .inl hx))
    exact ⟨i1, i2, i3 _ _ _ H3.out.2⟩)
  clear hfu hD4 hT4 hT4' hG4 hF4 hn4 hs4 hO4 hM4 hP4 hV4 hK4 hP4' hlen8 hs5
  cases ok with
  | false =>
    have HY5 := Lib.hid htc.2.2.2
    clear htc
    go_wp2_with fail
    refine hcm.mono ?_
    rintro e w5 (⟨hx, _⟩ | ⟨_, hx, _⟩ | ⟨_, _, rfl, hD5, hV5, hT5⟩)
    · rw [HM.out.1] at hx; cases hx
    · have := HM.out.2; rw [hx] at this; simp at this
    obtain ⟨hO5, hM5, hP5⟩ := HT4.out w5 hT5
    have H7 := Lib.hid (And.intro (show MdT w1 w5 Z d L v m2 _ _ s5 A2 m2 c2 rs from ⟨hD5, hV5, hM5, hO5, H4.out.2.2.2⟩) hP5)
    clear hcm hD5 hV5 hT5 hO5 hM5 hP5
    have hkp := keeper_two Ak mk ck ks a2 w5 HW.out.2.2.2.1 ((HW.out.2.2.2.2.below H1.out).below H7.out.1.O)
    go_wp2_with fail
    refine hkp.mono ?_
    rintro e w8 ⟨bx, rfl, hk8, hO8⟩
    have hcr := dk_keep bx Ak ck ks a2 HB2.out (H7.out.1.D.below hO8) hk8
    have H8 := Lib.hid (And.intro (H7.out.1.below hO8) (H7.out.2.below hO8))
    clear hkp hk8 hO8
    go_wp2_with fail
    refine hcr.mono ?_
    rintro e w9 ⟨d9, L9, rfl, hD9, hd9, hL9, hO9⟩
    have H9 := Lib.hid (And.intro (H8.out.1.below hO9) (And.intro (H8.out.2.below hO9) hD9))
    clear hcr hD9 hO9
    rcases HY5.out (keptB ks a2) with g9 | g9
    · obtain ⟨f1, f2, _⟩ := crash_fresh s5 (keptB ks a2)
      have hn9 := crash_n s5 (keptB ks a2)
      obtain ⟨s9, hs9⟩ : ∃ s9, s5.crash (keptB ks a2) = s9 := ⟨_, rfl⟩
      have hDv : Dev w9 d9 L9 n s9 Z (rs.map (·.l)) := ⟨by rw [← hs9]; exact H9.out.2.2, by rw [← hs9]; exact g9, by rw [← hs9, hn9]; exact H4.out.2.2.2, by rw [← hs9]; exact f2, by rw [← hs9]; exact f1⟩
      have hcr := dk_lost hDv.D
      have HD9 := Lib.hid hDv
      clear f1 f2 hn9 hs9 g9 hDv
      go_wp2_with fail
      refine hcr.mono ?_
      rintro e w10 ⟨d10, L10, rfl, hD10, hd10, hL10, hO10⟩
      obtain ⟨f1, f2, _⟩ := crash_fresh s9 (fun _ => false)
      have hn10 := crash_n s9 (fun _ => false)
      have hG10 := HD9.out.G.crash (fun _ => false)
      obtain ⟨s10, hs10⟩ : ∃ s10, s9.crash (fun _ => false) = s10 := ⟨_, rfl⟩
      have hDv : Dev w10 d10 L10 n s10 Z (rs.map (·.l)) := ⟨by rw [← hs10]; exact hD10, by rw [← hs10]; exact hG10, by rw [← hs10, hn10]; exact HD9.out.sn, by rw [← hs10]; exact f2, by rw [← hs10]; exact f1⟩
      have hmn := hDv.mount H3.out.1.hB ((HW.out.1.below H1.out).below (H9.out.1.below hO10).O) (by omega)
      have HN10 := Lib.hid (And.intro (show d9 < w9.heap.size ∧ L9 < w9.heap.size from HD9.out.D.lt) (And.intro hd10 (And.intro hL10 hO10.size)))
      have H10 := Lib.hid (And.intro (H9.out.1.below hO10) (And.intro (H9.out.2.1.below hO10) (HD9.out.below hO10)))
      clear hcr hD10 hd10 hL10 hO10 f1 f2 hn10 hG10 hs10 hDv
      go_wp2_with fail
      refine hmn.mono ?_
      rintro e w11 ⟨v11, rfl, hv11, hm11, _, hO11⟩
      have HN11 := Lib.hid (And.intro hv11 hO11.size)
      have H11 := Lib.hid (And.intro (H10.out.1.below hO11) (And.intro (H10.out.2.1.below hO11) (And.intro (H10.out.2.2.below hO11) hm11)))
      clear hmn hv11 hm11 hO11
      go_wp2_with fail
      have hfu := dk_fuse d9 L9 s9 q2 w11 H11.out.2.2.1.D
      refine hfu.mono ?_
      rintro e w12 ⟨rfl, hD12, hT12⟩
      have hty : ∀ g ∈ [d9, L9], ∃ t cs, Blk w11 g t cs ∧ t ≠ 5 ∧ t ≠ 40 ∧ t ≠ 42 := fun g hg => by
        obtain ⟨⟨c1, h1⟩, c2, h2⟩ := H11.out.2.2.1.D.typed
        rcases List.mem_cons.1 hg with rfl | hg
        · exact ⟨_, _, h1, by decide, by decide, by decide⟩
        rw [List.mem_singleton] at hg
        subst hg
        exact ⟨_, _, h2, by decide, by decide, by decide⟩
      have hx1 := HN10.out
      have hx2 := HN11.out
      have hM12 : ModAt w12 w1.heap.size (.slice A2 m2 c2) rs := H11.out.1.M.turn hT12 fun g hg => by obtain ⟨t, cs, i1, i2, i3, _⟩ := hty g hg; exact ⟨t, cs, i1, i2, i3⟩
      have hP12 : PutsOwn w12 w2.heap.size (.slice A7 ps.length c7) ps := H11.out.2.1.turn hT12 fun g hg => by obtain ⟨t, cs, i1, i2, _, i3⟩ := hty g hg; exact ⟨t, cs, i1, i2, i3⟩
      have hm12 : Mnt w12 d10 L10 v11 m2 n s10 Z (rs.map (·.l)) := H11.out.2.2.2.turn hT12 (by simp; omega) (by simp; omega) (by simp; omega) fun g hg => by obtain ⟨t, cs, i1, i2, _⟩ := hty g hg; exact ⟨t, cs, i1, i2⟩
      have hw9 : w1.heap.size ≤ d9 ∧ w1.heap.size ≤ L9 := ⟨Nat.le_trans H8.out.1.O.size hd9, Nat.le_trans H8.out.1.O.size hL9⟩
      have hO12 : Old w1 w12 := below_turn H11.out.1.O hT12 (by simp; omega) H11.out.1.O.size
      have hG12 := good_fuse HD9.out.G q2
      have hn12 := fuse_n s9 q2
      obtain ⟨s12, hs12⟩ : ∃ s12, s9.fuse q2 = s12 := ⟨_, rfl⟩
      rw [hs12] at hD12 hG12 hn12
      rw [HD9.out.sn] at hn12
      have hms := mount_some (S := Z) hD12 hG12 ((HW.out.1.below H1.out).below hO12) (by omega)
      have H12 := Lib.hid (And.intro hM12 (And.intro hP12 (And.intro hm12 (And.intro hO12 (And.intro hD12 (And.intro hG12 hn12))))))
      clear hfu hD12 hT12 hty hx1 hx2 hM12 hP12 hm12 hw9 hO12 hG12 hn12 hs12
      go_wp2_with fail
      refine hms.mono ?_
      rintro e w13 ⟨u1, u2, rfl, hO13⟩
      have hO13' := Old.trans H12.out.2.2.2.1 hO13
      have hkp := keeper_two Ak mk ck ks a3 w13 HW.out.2.2.2.1 ((HW.out.2.2.2.2.below H1.out).below hO13')
      have H13 := Lib.hid (And.intro (H12.out.1.below hO13) (And.intro (H12.out.2.1.below hO13) (And.intro (H12.out.2.2.1.below hO13) (And.intro hO13' (H12.out.2.2.2.2.1.below hO13)))))
      clear hms hO13 hO13'
      go_wp2_with fail
      refine hkp.mono ?_
      rintro e w14 ⟨bx3, rfl, hk14, hO14⟩
      have hcr := dk_keep bx3 Ak ck ks a3 HB2.out (H13.out.2.2.2.2.below hO14) hk14
      have H14 := Lib.hid (And.intro (H13.out.1.below hO14) (And.intro (H13.out.2.1.below hO14) (And.intro (H13.out.2.2.1.below hO14) (Old.trans H13.out.2.2.2.1 hO14))))
      clear hkp hk14 hO14
      go_wp2_with fail
      refine hcr.mono ?_
      rintro e w15 ⟨d15, L15, rfl, hD15, hd15, hL15, hO15⟩
      obtain ⟨f1, f2, f3⟩ := crash_fresh s12 (keptB ks a3)
      have hn15 := crash_n s12 (keptB ks a3)
      have hG15 := H12.out.2.2.2.2.2.1.crash (keptB ks a3)
      obtain ⟨s15, hs15⟩ : ∃ s15, s12.crash (keptB ks a3) = s15 := ⟨_, rfl⟩
      have hDv : Dev w15 d15 L15 n s15 Z (rs.map (·.l)) := ⟨by rw [← hs15]; exact hD15, by rw [← hs15]; exact hG15, by rw [← hs15, hn15]; exact H12.out.2.2.2.2.2.2, by rw [← hs15]; exact f2, by rw [← hs15]; exact f1⟩
      have hO15' := Old.trans H14.out.2.2.2 hO15
      have hmn := hDv.mount H3.out.1.hB ((HW.out.1.below H1.out).below hO15') (by omega)
      have HN15 := Lib.hid (And.intro H14.out.2.2.1.lt (And.intro hd15 (And.intro hL15 (And.intro hO15.size (And.intro H14.out.2.2.2.size (show FOk s15 0 by rw [← hs15]; exact f3))))))
      have H15 := Lib.hid (And.intro (H14.out.1.below hO15) (And.intro (H14.out.2.1.below hO15) (And.intro (H14.out.2.2.1.below hO15) hO15')))
      clear hcr hD15 hd15 hL15 hO15 hO15' f1 f2 f3 hn15 hG15 hs15 hDv
      go_wp2_with fail
      refine hmn.mono ?_
      rintro e w16 ⟨v16, rfl, hv16, hm16, _, hO16⟩
      have HN16 := Lib.hid hv16
      have hco1 := commits_any v16 d15 m2 n false w16 hm16.V
      have hco2 := commits_any v11 d10 m2 n false w16 (H15.out.2.2.1.below hO16).V
      have H16 := Lib.hid (And.intro (H15.out.1.below hO16) (And.intro (H15.out.2.1.below hO16) (And.intro (H15.out.2.2.1.below hO16) (And.intro (Old.trans H15.out.2.2.2 hO16) hm16))))
      clear hmn hv16 hm16 hO16
      go_wp2_with fail
      refine hco1.mono ?_
      rintro e w' ⟨rfl, rfl⟩
      go_wp2_with fail
      refine hco2.mono ?_
      rintro e w' ⟨rfl, rfl⟩
      clear hco2
      go_wp2_with fail
      clear hco1
      go_loopw [26] (fun iv wr => ∃ k : Nat, k ≤ m2 ∧ iv = .int .i64 (k : Int) ∧ Old w16 wr) (fun iv _ => m2 - (intOf iv).toNat)
      case atStart => exact ⟨0, by omega, rfl, Old.refl _⟩
      case round =>
        obtain ⟨i, hi, rfl, hO⟩ := hrel
        by_cases hlt : i < m2
        · have hlti : (i : Int) < m2 := by omega
          have hltd : decide ((i : Int) < (m2 : Int)) = true := decide_eq_true hlti
          have hr1 := fun W (hW : Old wr W) => ((H16.out.2.2.2.2.below hO).below hW).read H3.out.1.hB (by omega) i hlt
          have hr2 := fun W (hW : Old wr W) => ((H16.out.2.2.1.below hO).below hW).read H3.out.1.hB (by omega) i hlt
          have HR := Lib.hid (And.intro hO (And.intro hr1 hr2))
          clear hO hr1 hr2
          go_wp2_with fail
          refine region_old (by kernel_rfl) (fun wd hHeld hSz => ?_)
          have HSz := Lib.hid hSz
          clear hSz
          refine takeL (i := 0) (v := ?_) rfl (by kernel_rfl) (by kernel_rfl) (by kernel_rfl) (fun _ _ _ h => h) (Or.inl ⟨by rfl, ?_⟩) hHeld ?_
          rotate_left
          focus (intro wq hSw; clear hSw; go_simp; try with_reducible rfl)
          try simp only [Act.put, List.setIfInBounds_toArray, List.set_cons_zero, List.set_cons_succ]
          refine takeL (i := 1) (v := ?_) rfl (by kernel_rfl) (by kernel_rfl) (by kernel_rfl) (fun _ _ _ h => h) (Or.inl ⟨by rfl, ?_⟩) hHeld ?_
          rotate_left
          focus (intro wq hSw; clear hSw; go_simp; try with_reducible rfl)
          try simp only [Act.put, List.setIfInBounds_toArray, List.set_cons_zero, List.set_cons_succ]
          refine takeL (i := 4) (v := ?_) rfl (by kernel_rfl) (by kernel_rfl) (by kernel_rfl) (fun _ _ _ h => h) (Or.inl ⟨by rfl, ?_⟩) hHeld ?_
          rotate_left
          focus (intro wq hSw; clear hSw; go_simp; try with_reducible rfl)
          try simp only [Act.put, List.setIfInBounds_toArray, List.set_cons_zero, List.set_cons_succ]
          refine takeL (i := 5) (v := ?_) rfl (by kernel_rfl) (by kernel_rfl) (by kernel_rfl) (fun _ _ _ h => h) (Or.inl ⟨by rfl, ?_⟩) hHeld ?_
          rotate_left
          focus (intro wq hSw; clear hSw; go_simp; try with_reducible rfl)
          try simp only [Act.put, List.setIfInBounds_toArray, List.set_cons_zero, List.set_cons_succ]
          refine wpAnyH_ready (rs := [2]) (by kernel_rfl) (by simp) ?_
          refine consL rfl (fun K hK => ?_) AllReadyH.nil
          go_simp
          refine (HR.out.2.1 wd hHeld).mono ?_
          rintro e w20 ⟨g2, c20, rfl, hO2, hb2⟩
          have hb2' := Old.trans hHeld hb2
          clear hb2
          refine hK.out _ _ hb2' (fun hHeld => ?_)
          clear hK K
          try simp only [Act.put, List.setIfInBounds_toArray, List.set_cons_zero, List.set_cons_succ]
          refine wpAnyH_old (w1 := w20) hb2' (fun hHeld => ?_) (Old.refl _)
          refine takeL (i := 3) (v := ?_) rfl (by kernel_rfl) (by kernel_rfl) (by kernel_rfl) (fun _ _ _ h => h) (Or.inl ⟨by rfl, ?_⟩) hHeld ?_
          rotate_left
          focus (intro wq hSw; have hRun := hO2.rd.str_below hSw; clear hSw; go_simp; try with_reducible rfl)
          try simp only [Act.put, List.setIfInBounds_toArray, List.set_cons_zero, List.set_cons_succ]
          refine wpAnyH_ready (rs := [6]) (by kernel_rfl) (by simp) ?_
          refine consL rfl (fun K hK => ?_) AllReadyH.nil
          go_simp
          refine (HR.out.2.2 _ (Old.trans hb2' hHeld)).mono ?_
          rintro e w21 ⟨g3, c21, rfl, hO3, hb3⟩
          have hb3' := Old.trans (Old.trans hb2' hHeld) hb3
          have hb4' := Old.trans hHeld hb3
          refine hK.out _ _ hb4' (fun hHeld => ?_)
          clear hK K
          try simp only [Act.put, List.setIfInBounds_toArray, List.set_cons_zero, List.set_cons_succ]
          refine wpAnyH_old (w1 := w21) hb4' (fun hHeld => ?_) (Old.refl _)
          refine takeL (i := 7) (v := ?_) rfl (by kernel_rfl) (by kernel_rfl) (by kernel_rfl) (fun _ _ _ h => h) (Or.inl ⟨by rfl, ?_⟩) hHeld ?_
          rotate_left
          focus (intro wq hSw; have hRun := hO3.rd.str_below hSw; clear hSw; go_simp; try with_reducible rfl)
          try simp only [Act.put, List.setIfInBounds_toArray, List.set_cons_zero, List.set_cons_succ]
          refine takeL (i := 8) (v := ?_) rfl (by kernel_rfl) (by kernel_rfl) (by kernel_rfl) (fun _ _ _ h => h) (Or.inl ⟨by rfl, ?_⟩) hHeld ?_
          rotate_left
          focus (intro wq hSw; clear hSw; go_simp; try with_reducible rfl)
          try simp only [Act.put, List.setIfInBounds_toArray, List.set_cons_zero, List.set_cons_succ]
          refine wpAnyH_done (by kernel_rfl) ?_ _
          refine NoPanic.normal ?_
          try simp only [Exit.then]
          have hOh := Old.trans hb3' hHeld
          have HF := Lib.hid (Old.trans HR.out.1 hOh)
          try simp only [bne_self_eq_false, beq_self_eq_true, Bool.not_true]
          clear hHeld hOh hb2' hb3' hb4' hO2 hO3
          go_wp2_with fail
          go_roundw
          case measure => simp [intOf]; omega
          exact ⟨i + 1, by omega, by simp, HF.out⟩
        · obtain rfl : i = m2 := by omega
          have hlti : ¬ (i : Int) < i := by omega
          have hltd : decide ((i : Int) < (i : Int)) = false := decide_eq_false hlti
          have hy := H16.out.2.2.2.2.below hO
          have hcm := hy.commit H3.out.1.hB ((HW.out.1.below H1.out).below (Old.trans H16.out.2.2.2.1 hO)) (by omega) HN15.out.2.2.2.2.2 (H16.out.2.1.below hO) HM.out.1 HM.out.2
          have HR := Lib.hid (And.intro hO hy)
          clear hO hy
          go_wp2_with fail
          refine hcm.mono ?_
          rintro e w17 ⟨s17, rfl, hm17, hT17⟩
          have hty := HR.out.2.types
          have hx1 := HN15.out
          have hx2 := HN16.out
          have hM17 : ModAt w17 w1.heap.size (.slice A2 i c2) rs := (H16.out.1.below HR.out.1).turn hT17 fun g hg => by obtain ⟨t, cs, i1, i2, i3, _⟩ := hty g hg; exact ⟨t, cs, i1, i2, i3⟩
          have hP17 : PutsOwn w17 w2.heap.size (.slice A7 ps.length c7) ps := (H16.out.2.1.below HR.out.1).turn hT17 fun g hg => by obtain ⟨t, cs, i1, i2, _, i3⟩ := hty g hg; exact ⟨t, cs, i1, i2, i3⟩
          have hf17 : Mnt w17 d10 L10 v11 i n s10 Z (rs.map (·.l)) := (H16.out.2.2.1.below HR.out.1).turn hT17 (by simp; omega) (by simp; omega) (by simp; omega) fun g hg => by obtain ⟨t, cs, i1, i2, _⟩ := hty g hg; exact ⟨t, cs, i1, i2⟩
          have hO17 : Old w1 w17 := below_turn (Old.trans H16.out.2.2.2.1 HR.out.1) hT17 (by simp; omega) (Old.trans H16.out.2.2.2.1 HR.out.1).size
          have haf := H3.out.1.after_call (w' := w17) hM17 hO17 H2.out.O.size hP17 HM.out.1
          have H17 := Lib.hid (And.intro hm17 (And.intro hf17 hO17))
          clear hcm hm17 hT17 hty hx1 hx2 hM17 hP17 hf17 hO17
          go_wp2_with fail
          refine haf.mono ?_
          rintro e w18 ⟨A8, m8, c8, rs8, rfl, hM8, hrs8, hO18⟩
          have his := (H17.out.1.below hO18).is_good (A := A8) (m := m8) (c := c8) hM8 (by rw [hrs8]) H3.out.1.hB (by omega)
          have H18 := Lib.hid (And.intro (H17.out.1.below hO18) (And.intro (H17.out.2.1.below hO18) (Old.trans H17.out.2.2 hO18)))
          clear haf hM8 hrs8 hO18
          go_wp2_with fail
          refine his.mono ?_
          rintro e w19 ⟨rfl, hO19⟩
          have hco1 := commits_any v16 d15 i (n + 1) false w19 (H18.out.1.below hO19).V
          have hco2 := commits_any v11 d10 i n false w19 (H18.out.2.1.below hO19).V
          have H19 := Lib.hid (Old.trans H1.out (Old.trans H18.out.2.2 hO19))
          clear his hO19
          go_wp2_with fail
          refine hco1.mono ?_
          rintro e w' ⟨rfl, rfl⟩
          go_wp2_with fail
          refine hco2.mono ?_
          rintro e w' ⟨rfl, rfl⟩
          go_wp2_with fail
          go_ret
          exact ⟨rfl, H19.out⟩
    · obtain ⟨f1, f2, _⟩ := crash_fresh s5 (keptB ks a2)
      have hn9 := crash_n s5 (keptB ks a2)
      obtain ⟨s9, hs9⟩ : ∃ s9, s5.crash (keptB ks a2) = s9 := ⟨_, rfl⟩
      have hDv : Dev w9 d9 L9 (n + 1) s9 Z (after (rs.map (·.l)) (ps.map toPut)) := ⟨by rw [← hs9]; exact H9.out.2.2, by rw [← hs9]; exact g9, by rw [← hs9, hn9]; exact H4.out.2.2.2, by rw [← hs9]; exact f2, by rw [← hs9]; exact f1⟩
      have hcr := dk_lost hDv.D
      have HD9 := Lib.hid hDv
      clear f1 f2 hn9 hs9 g9 hDv
      go_wp2_with fail
      refine hcr.mono ?_
      rintro e w10 ⟨d10, L10, rfl, hD10, hd10, hL10, hO10⟩
      obtain ⟨f1, f2, _⟩ := crash_fresh s9 (fun _ => false)
      have hn10 := crash_n s9 (fun _ => false)
      have hG10 := HD9.out.G.crash (fun _ => false)
      obtain ⟨s10, hs10⟩ : ∃ s10, s9.crash (fun _ => false) = s10 := ⟨_, rfl⟩
      have hDv : Dev w10 d10 L10 (n + 1) s10 Z (after (rs.map (·.l)) (ps.map toPut)) := ⟨by rw [← hs10]; exact hD10, by rw [← hs10]; exact hG10, by rw [← hs10, hn10]; exact HD9.out.sn, by rw [← hs10]; exact f2, by rw [← hs10]; exact f1⟩
      have hmn := hDv.mount H3.out.1.hB ((HW.out.1.below H1.out).below (H9.out.1.below hO10).O) (by omega)
      have HN10 := Lib.hid (And.intro (show d9 < w9.heap.size ∧ L9 < w9.heap.size from HD9.out.D.lt) (And.intro hd10 (And.intro hL10 hO10.size)))
      have H10 := Lib.hid (And.intro (H9.out.1.below hO10) (And.intro (H9.out.2.1.below hO10) (HD9.out.below hO10)))
      clear hcr hD10 hd10 hL10 hO10 f1 f2 hn10 hG10 hs10 hDv
      go_wp2_with fail
      refine hmn.mono ?_
      rintro e w11 ⟨v11, rfl, hv11, hm11, _, hO11⟩
      have HN11 := Lib.hid (And.intro hv11 hO11.size)
      have H11 := Lib.hid (And.intro (H10.out.1.below hO11) (And.intro (H10.out.2.1.below hO11) (And.intro (H10.out.2.2.below hO11) hm11)))
      clear hmn hv11 hm11 hO11
      go_wp2_with fail
      have hfu := dk_fuse d9 L9 s9 q2 w11 H11.out.2.2.1.D
      refine hfu.mono ?_
      rintro e w12 ⟨rfl, hD12, hT12⟩
      have hty : ∀ g ∈ [d9, L9], ∃ t cs, Blk w11 g t cs ∧ t ≠ 5 ∧ t ≠ 40 ∧ t ≠ 42 := fun g hg => by
        obtain ⟨⟨c1, h1⟩, c2, h2⟩ := H11.out.2.2.1.D.typed
        rcases List.mem_cons.1 hg with rfl | hg
        · exact ⟨_, _, h1, by decide, by decide, by decide⟩
        rw [List.mem_singleton] at hg
        subst hg
        exact ⟨_, _, h2, by decide, by decide, by decide⟩
      have hx1 := HN10.out
      have hx2 := HN11.out
      have hM12 : ModAt w12 w1.heap.size (.slice A2 m2 c2) rs := H11.out.1.M.turn hT12 fun g hg => by obtain ⟨t, cs, i1, i2, i3, _⟩ := hty g hg; exact ⟨t, cs, i1, i2, i3⟩
      have hP12 : PutsOwn w12 w2.heap.size (.slice A7 ps.length c7) ps := H11.out.2.1.turn hT12 fun g hg => by obtain ⟨t, cs, i1, i2, _, i3⟩ := hty g hg; exact ⟨t, cs, i1, i2, i3⟩
      have hm12 : Mnt w12 d10 L10 v11 m2 (n + 1) s10 Z (after (rs.map (·.l)) (ps.map toPut)) := H11.out.2.2.2.turn hT12 (by simp; omega) (by simp; omega) (by simp; omega) fun g hg => by obtain ⟨t, cs, i1, i2, _⟩ := hty g hg; exact ⟨t, cs, i1, i2⟩
      have hw9 : w1.heap.size ≤ d9 ∧ w1.heap.size ≤ L9 := ⟨Nat.le_trans H8.out.1.O.size hd9, Nat.le_trans H8.out.1.O.size hL9⟩
      have hO12 : Old w1 w12 := below_turn H11.out.1.O hT12 (by simp; omega) H11.out.1.O.size
      have hG12 := good_fuse HD9.out.G q2
      have hn12 := fuse_n s9 q2
      obtain ⟨s12, hs12⟩ : ∃ s12, s9.fuse q2 = s12 := ⟨_, rfl⟩
      rw [hs12] at hD12 hG12 hn12
      rw [HD9.out.sn] at hn12
      have hms := mount_some (S := Z) hD12 hG12 ((HW.out.1.below H1.out).below hO12) (by omega)
      have H12 := Lib.hid (And.intro hM12 (And.intro hP12 (And.intro hm12 (And.intro hO12 (And.intro hD12 (And.intro hG12 hn12))))))
      clear hfu hD12 hT12 hty hx1 hx2 hM12 hP12 hm12 hw9 hO12 hG12 hn12 hs12
      go_wp2_with fail
      refine hms.mono ?_
      rintro e w13 ⟨u1, u2, rfl, hO13⟩
      have hO13' := Old.trans H12.out.2.2.2.1 hO13
      have hkp := keeper_two Ak mk ck ks a3 w13 HW.out.2.2.2.1 ((HW.out.2.2.2.2.below H1.out).below hO13')
      have H13 := Lib.hid (And.intro (H12.out.1.below hO13) (And.intro (H12.out.2.1.below hO13) (And.intro (H12.out.2.2.1.below hO13) (And.intro hO13' (H12.out.2.2.2.2.1.below hO13)))))
      clear hms hO13 hO13'
      go_wp2_with fail
      refine hkp.mono ?_
      rintro e w14 ⟨bx3, rfl, hk14, hO14⟩
      have hcr := dk_keep bx3 Ak ck ks a3 HB2.out (H13.out.2.2.2.2.below hO14) hk14
      have H14 := Lib.hid (And.intro (H13.out.1.below hO14) (And.intro (H13.out.2.1.below hO14) (And.intro (H13.out.2.2.1.below hO14) (Old.trans H13.out.2.2.2.1 hO14))))
      clear hkp hk14 hO14
      go_wp2_with fail
      refine hcr.mono ?_
      rintro e w15 ⟨d15, L15, rfl, hD15, hd15, hL15, hO15⟩
      obtain ⟨f1, f2, f3⟩ := crash_fresh s12 (keptB ks a3)
      have hn15 := crash_n s12 (keptB ks a3)
      have hG15 := H12.out.2.2.2.2.2.1.crash (keptB ks a3)
      obtain ⟨s15, hs15⟩ : ∃ s15, s12.crash (keptB ks a3) = s15 := ⟨_, rfl⟩
      have hDv : Dev w15 d15 L15 (n + 1) s15 Z (after (rs.map (·.l)) (ps.map toPut)) := ⟨by rw [← hs15]; exact hD15, by rw [← hs15]; exact hG15, by rw [← hs15, hn15]; exact H12.out.2.2.2.2.2.2, by rw [← hs15]; exact f2, by rw [← hs15]; exact f1⟩
      have hO15' := Old.trans H14.out.2.2.2 hO15
      have hmn := hDv.mount H3.out.1.hB ((HW.out.1.below H1.out).below hO15') (by omega)
      have HN15 := Lib.hid (And.intro H14.out.2.2.1.lt (And.intro hd15 (And.intro hL15 (And.intro hO15.size (And.intro H14.out.2.2.2.size (show FOk s15 0 by rw [← hs15]; exact f3))))))
      have H15 := Lib.hid (And.intro (H14.out.1.below hO15) (And.intro (H14.out.2.1.below hO15) (And.intro (H14.out.2.2.1.below hO15) hO15')))
      clear hcr hD15 hd15 hL15 hO15 hO15' f1 f2 f3 hn15 hG15 hs15 hDv
      go_wp2_with fail
      refine hmn.mono ?_
      rintro e w16 ⟨v16, rfl, hv16, hm16, _, hO16⟩
      have HN16 := Lib.hid hv16
      have hco1 := commits_any v16 d15 m2 (n + 1) false w16 hm16.V
      have hco2 := commits_any v11 d10 m2 (n + 1) false w16 (H15.out.2.2.1.below hO16).V
      have H16 := Lib.hid (And.intro (H15.out.1.below hO16) (And.intro (H15.out.2.1.below hO16) (And.intro (H15.out.2.2.1.below hO16) (And.intro (Old.trans H15.out.2.2.2 hO16) hm16))))
      clear hmn hv16 hm16 hO16
      go_wp2_with fail
      refine hco1.mono ?_
      rintro e w' ⟨rfl, rfl⟩
      go_wp2_with fail
      refine hco2.mono ?_
      rintro e w' ⟨rfl, rfl⟩
      clear hco2
      go_wp2_with fail
      clear hco1
      go_loopw [26] (fun iv wr => ∃ k : Nat, k ≤ m2 ∧ iv = .int .i64 (k : Int) ∧ Old w16 wr) (fun iv _ => m2 - (intOf iv).toNat)
      case atStart => exact ⟨0, by omega, rfl, Old.refl _⟩
      case round =>
        obtain ⟨i, hi, rfl, hO⟩ := hrel
        by_cases hlt : i < m2
        · have hlti : (i : Int) < m2 := by omega
          have hltd : decide ((i : Int) < (m2 : Int)) = true := decide_eq_true hlti
          have hr1 := fun W (hW : Old wr W) => ((H16.out.2.2.2.2.below hO).below hW).read H3.out.1.hB (by omega) i hlt
          have hr2 := fun W (hW : Old wr W) => ((H16.out.2.2.1.below hO).below hW).read H3.out.1.hB (by omega) i hlt
          have HR := Lib.hid (And.intro hO (And.intro hr1 hr2))
          clear hO hr1 hr2
          go_wp2_with fail
          refine region_old (by kernel_rfl) (fun wd hHeld hSz => ?_)
          have HSz := Lib.hid hSz
          clear hSz
          refine takeL (i := 0) (v := ?_) rfl (by kernel_rfl) (by kernel_rfl) (by kernel_rfl) (fun _ _ _ h => h) (Or.inl ⟨by rfl, ?_⟩) hHeld ?_
          rotate_left
          focus (intro wq hSw; clear hSw; go_simp; try with_reducible rfl)
          try simp only [Act.put, List.setIfInBounds_toArray, List.set_cons_zero, List.set_cons_succ]
          refine takeL (i := 1) (v := ?_) rfl (by kernel_rfl) (by kernel_rfl) (by kernel_rfl) (fun _ _ _ h => h) (Or.inl ⟨by rfl, ?_⟩) hHeld ?_
          rotate_left
          focus (intro wq hSw; clear hSw; go_simp; try with_reducible rfl)
          try simp only [Act.put, List.setIfInBounds_toArray, List.set_cons_zero, List.set_cons_succ]
          refine takeL (i := 4) (v := ?_) rfl (by kernel_rfl) (by kernel_rfl) (by kernel_rfl) (fun _ _ _ h => h) (Or.inl ⟨by rfl, ?_⟩) hHeld ?_
          rotate_left
          focus (intro wq hSw; clear hSw; go_simp; try with_reducible rfl)
          try simp only [Act.put, List.setIfInBounds_toArray, List.set_cons_zero, List.set_cons_succ]
          refine takeL (i := 5) (v := ?_) rfl (by kernel_rfl) (by kernel_rfl) (by kernel_rfl) (fun _ _ _ h => h) (Or.inl ⟨by rfl, ?_⟩) hHeld ?_
          rotate_left
          focus (intro wq hSw; clear hSw; go_simp; try with_reducible rfl)
          try simp only [Act.put, List.setIfInBounds_toArray, List.set_cons_zero, List.set_cons_succ]
          refine wpAnyH_ready (rs := [2]) (by kernel_rfl) (by simp) ?_
          refine consL rfl (fun K hK => ?_) AllReadyH.nil
          go_simp
          refine (HR.out.2.1 wd hHeld).mono ?_
          rintro e w20 ⟨g2, c20, rfl, hO2, hb2⟩
          have hb2' := Old.trans hHeld hb2
          clear hb2
          refine hK.out _ _ hb2' (fun hHeld => ?_)
          clear hK K
          try simp only [Act.put, List.setIfInBounds_toArray, List.set_cons_zero, List.set_cons_succ]
          refine wpAnyH_old (w1 := w20) hb2' (fun hHeld => ?_) (Old.refl _)
          refine takeL (i := 3) (v := ?_) rfl (by kernel_rfl) (by kernel_rfl) (by kernel_rfl) (fun _ _ _ h => h) (Or.inl ⟨by rfl, ?_⟩) hHeld ?_
          rotate_left
          focus (intro wq hSw; have hRun := hO2.rd.str_below hSw; clear hSw; go_simp; try with_reducible rfl)
          try simp only [Act.put, List.setIfInBounds_toArray, List.set_cons_zero, List.set_cons_succ]
          refine wpAnyH_ready (rs := [6]) (by kernel_rfl) (by simp) ?_
          refine consL rfl (fun K hK => ?_) AllReadyH.nil
          go_simp
          refine (HR.out.2.2 _ (Old.trans hb2' hHeld)).mono ?_
          rintro e w21 ⟨g3, c21, rfl, hO3, hb3⟩
          have hb3' := Old.trans (Old.trans hb2' hHeld) hb3
          have hb4' := Old.trans hHeld hb3
          refine hK.out _ _ hb4' (fun hHeld => ?_)
          clear hK K
          try simp only [Act.put, List.setIfInBounds_toArray, List.set_cons_zero, List.set_cons_succ]
          refine wpAnyH_old (w1 := w21) hb4' (fun hHeld => ?_) (Old.refl _)
          refine takeL (i := 7) (v := ?_) rfl (by kernel_rfl) (by kernel_rfl) (by kernel_rfl) (fun _ _ _ h => h) (Or.inl ⟨by rfl, ?_⟩) hHeld ?_
          rotate_left
          focus (intro wq hSw; have hRun := hO3.rd.str_below hSw; clear hSw; go_simp; try with_reducible rfl)
          try simp only [Act.put, List.setIfInBounds_toArray, List.set_cons_zero, List.set_cons_succ]
          refine takeL (i := 8) (v := ?_) rfl (by kernel_rfl) (by kernel_rfl) (by kernel_rfl) (fun _ _ _ h => h) (Or.inl ⟨by rfl, ?_⟩) hHeld ?_
          rotate_left
          focus (intro wq hSw; clear hSw; go_simp; try with_reducible rfl)
          try simp only [Act.put, List.setIfInBounds_toArray, List.set_cons_zero, List.set_cons_succ]
          refine wpAnyH_done (by kernel_rfl) ?_ _
          refine NoPanic.normal ?_
          try simp only [Exit.then]
          have hOh := Old.trans hb3' hHeld
          have HF := Lib.hid (Old.trans HR.out.1 hOh)
          try simp only [bne_self_eq_false, beq_self_eq_true, Bool.not_true]
          clear hHeld hOh hb2' hb3' hb4' hO2 hO3
          go_wp2_with fail
          go_roundw
          case measure => simp [intOf]; omega
          exact ⟨i + 1, by omega, by simp, HF.out⟩
        · obtain rfl : i = m2 := by omega
          have hlti : ¬ (i : Int) < i := by omega
          have hltd : decide ((i : Int) < (i : Int)) = false := decide_eq_false hlti
          have hy := H16.out.2.2.2.2.below hO
          have hcm := hy.commit H3.out.1.hB ((HW.out.1.below H1.out).below (Old.trans H16.out.2.2.2.1 hO)) (by omega) HN15.out.2.2.2.2.2 (H16.out.2.1.below hO) HM.out.1 HM.out.2
          have HR := Lib.hid (And.intro hO hy)
          clear hO hy
          go_wp2_with fail
          refine hcm.mono ?_
          rintro e w17 ⟨s17, rfl, hm17, hT17⟩
          have hty := HR.out.2.types
          have hx1 := HN15.out
          have hx2 := HN16.out
          have hM17 : ModAt w17 w1.heap.size (.slice A2 i c2) rs := (H16.out.1.below HR.out.1).turn hT17 fun g hg => by obtain ⟨t, cs, i1, i2, i3, _⟩ := hty g hg; exact ⟨t, cs, i1, i2, i3⟩
          have hP17 : PutsOwn w17 w2.heap.size (.slice A7 ps.length c7) ps := (H16.out.2.1.below HR.out.1).turn hT17 fun g hg => by obtain ⟨t, cs, i1, i2, _, i3⟩ := hty g hg; exact ⟨t, cs, i1, i2, i3⟩
          have hf17 : Mnt w17 d10 L10 v11 i (n + 1) s10 Z (after (rs.map (·.l)) (ps.map toPut)) := (H16.out.2.2.1.below HR.out.1).turn hT17 (by simp; omega) (by simp; omega) (by simp; omega) fun g hg => by obtain ⟨t, cs, i1, i2, _⟩ := hty g hg; exact ⟨t, cs, i1, i2⟩
          have hO17 : Old w1 w17 := below_turn (Old.trans H16.out.2.2.2.1 HR.out.1) hT17 (by simp; omega) (Old.trans H16.out.2.2.2.1 HR.out.1).size
          have haf := H3.out.1.after_call (w' := w17) hM17 hO17 H2.out.O.size hP17 HM.out.1
          have H17 := Lib.hid (And.intro hm17 (And.intro hf17 hO17))
          clear hcm hm17 hT17 hty hx1 hx2 hM17 hP17 hf17 hO17
          go_wp2_with fail
          refine haf.mono ?_
          rintro e w18 ⟨A8, m8, c8, rs8, rfl, hM8, hrs8, hO18⟩
          have his := (H17.out.1.below hO18).is_good (A := A8) (m := m8) (c := c8) hM8 (by rw [hrs8]; exact (after_twice _ _).symm) H3.out.1.hB (by omega)
          have H18 := Lib.hid (And.intro (H17.out.1.below hO18) (And.intro (H17.out.2.1.below hO18) (Old.trans H17.out.2.2 hO18)))
          clear haf hM8 hrs8 hO18
          go_wp2_with fail
          refine his.mono ?_
          rintro e w19 ⟨rfl, hO19⟩
          have hco1 := commits_any v16 d15 i ((n + 1) + 1) false w19 (H18.out.1.below hO19).V
          have hco2 := commits_any v11 d10 i (n + 1) false w19 (H18.out.2.1.below hO19).V
          have H19 := Lib.hid (Old.trans H1.out (Old.trans H18.out.2.2 hO19))
          clear his hO19
          go_wp2_with fail
          refine hco1.mono ?_
          rintro e w' ⟨rfl, rfl⟩
          go_wp2_with fail
          refine hco2.mono ?_
          rintro e w' ⟨rfl, rfl⟩
          go_wp2_with fail
          go_ret
          exact ⟨rfl, H19.out⟩
  | true =>
    have HY5 := Lib.hid (htc.2.2.1 rfl)
    clear htc
    go_wp2_with fail
    refine hcm.mono ?_
    rintro e w5 (⟨hx, _⟩ | ⟨_, hx, _⟩ | ⟨_, _, rfl, hD5, hV5, hT5⟩)
    · rw [HM.out.1] at hx; cases hx
    · have := HM.out.2; rw [hx] at this; simp at this
    obtain ⟨hO5, hM5, hP5⟩ := HT4.out w5 hT5
    have H7 := Lib.hid (And.intro (show MdT w1 w5 Z d L v m2 _ _ s5 A2 m2 c2 rs from ⟨hD5, hV5, hM5, hO5, H4.out.2.2.2⟩) hP5)
    clear hcm hD5 hV5 hT5 hO5 hM5 hP5
    have hkp := keeper_two Ak mk ck ks a2 w5 HW.out.2.2.2.1 ((HW.out.2.2.2.2.below H1.out).below H7.out.1.O)
    go_wp2_with fail
    refine hkp.mono ?_
    rintro e w8 ⟨bx, rfl, hk8, hO8⟩
    have hcr := dk_keep bx Ak ck ks a2 HB2.out (H7.out.1.D.below hO8) hk8
    have H8 := Lib.hid (And.intro (H7.out.1.below hO8) (H7.out.2.below hO8))
    clear hkp hk8 hO8
    go_wp2_with fail
    refine hcr.mono ?_
    rintro e w9 ⟨d9, L9, rfl, hD9, hd9, hL9, hO9⟩
    have H9 := Lib.hid (And.intro (H8.out.1.below hO9) (And.intro (H8.out.2.below hO9) hD9))
    clear hcr hD9 hO9
    have g9 := HY5.out (keptB ks a2)
    obtain ⟨f1, f2, _⟩ := crash_fresh s5 (keptB ks a2)
    have hn9 := crash_n s5 (keptB ks a2)
    obtain ⟨s9, hs9⟩ : ∃ s9, s5.crash (keptB ks a2) = s9 := ⟨_, rfl⟩
    have hDv : Dev w9 d9 L9 (n + 1) s9 Z (after (rs.map (·.l)) (ps.map toPut)) := ⟨by rw [← hs9]; exact H9.out.2.2, by rw [← hs9]; exact g9, by rw [← hs9, hn9]; exact H4.out.2.2.2, by rw [← hs9]; exact f2, by rw [← hs9]; exact f1⟩
    have hcr := dk_lost hDv.D
    have HD9 := Lib.hid hDv
    clear f1 f2 hn9 hs9 g9 hDv
    go_wp2_with fail
    refine hcr.mono ?_
    rintro e w10 ⟨d10, L10, rfl, hD10, hd10, hL10, hO10⟩
    obtain ⟨f1, f2, _⟩ := crash_fresh s9 (fun _ => false)
    have hn10 := crash_n s9 (fun _ => false)
    have hG10 := HD9.out.G.crash (fun _ => false)
    obtain ⟨s10, hs10⟩ : ∃ s10, s9.crash (fun _ => false) = s10 := ⟨_, rfl⟩
    have hDv : Dev w10 d10 L10 (n + 1) s10 Z (after (rs.map (·.l)) (ps.map toPut)) := ⟨by rw [← hs10]; exact hD10, by rw [← hs10]; exact hG10, by rw [← hs10, hn10]; exact HD9.out.sn, by rw [← hs10]; exact f2, by rw [← hs10]; exact f1⟩
    have hmn := hDv.mount H3.out.1.hB ((HW.out.1.below H1.out).below (H9.out.1.below hO10).O) (by omega)
    have HN10 := Lib.hid (And.intro (show d9 < w9.heap.size ∧ L9 < w9.heap.size from HD9.out.D.lt) (And.intro hd10 (And.intro hL10 hO10.size)))
    have H10 := Lib.hid (And.intro (H9.out.1.below hO10) (And.intro (H9.out.2.1.below hO10) (HD9.out.below hO10)))
    clear hcr hD10 hd10 hL10 hO10 f1 f2 hn10 hG10 hs10 hDv
    go_wp2_with fail
    refine hmn.mono ?_
    rintro e w11 ⟨v11, rfl, hv11, hm11, _, hO11⟩
    have HN11 := Lib.hid (And.intro hv11 hO11.size)
    have H11 := Lib.hid (And.intro (H10.out.1.below hO11) (And.intro (H10.out.2.1.below hO11) (And.intro (H10.out.2.2.below hO11) hm11)))
    clear hmn hv11 hm11 hO11
    go_wp2_with fail
    have hfu := dk_fuse d9 L9 s9 q2 w11 H11.out.2.2.1.D
    refine hfu.mono ?_
    rintro e w12 ⟨rfl, hD12, hT12⟩
    have hty : ∀ g ∈ [d9, L9], ∃ t cs, Blk w11 g t cs ∧ t ≠ 5 ∧ t ≠ 40 ∧ t ≠ 42 := fun g hg => by
      obtain ⟨⟨c1, h1⟩, c2, h2⟩ := H11.out.2.2.1.D.typed
      rcases List.mem_cons.1 hg with rfl | hg
      · exact ⟨_, _, h1, by decide, by decide, by decide⟩
      rw [List.mem_singleton] at hg
      subst hg
      exact ⟨_, _, h2, by decide, by decide, by decide⟩
    have hx1 := HN10.out
    have hx2 := HN11.out
    have hM12 : ModAt w12 w1.heap.size (.slice A2 m2 c2) rs := H11.out.1.M.turn hT12 fun g hg => by obtain ⟨t, cs, i1, i2, i3, _⟩ := hty g hg; exact ⟨t, cs, i1, i2, i3⟩
    have hP12 : PutsOwn w12 w2.heap.size (.slice A7 ps.length c7) ps := H11.out.2.1.turn hT12 fun g hg => by obtain ⟨t, cs, i1, i2, _, i3⟩ := hty g hg; exact ⟨t, cs, i1, i2, i3⟩
    have hm12 : Mnt w12 d10 L10 v11 m2 (n + 1) s10 Z (after (rs.map (·.l)) (ps.map toPut)) := H11.out.2.2.2.turn hT12 (by simp; omega) (by simp; omega) (by simp; omega) fun g hg => by obtain ⟨t, cs, i1, i2, _⟩ := hty g hg; exact ⟨t, cs, i1, i2⟩
    have hw9 : w1.heap.size ≤ d9 ∧ w1.heap.size ≤ L9 := ⟨Nat.le_trans H8.out.1.O.size hd9, Nat.le_trans H8.out.1.O.size hL9⟩
    have hO12 : Old w1 w12 := below_turn H11.out.1.O hT12 (by simp; omega) H11.out.1.O.size
    have hG12 := good_fuse HD9.out.G q2
    have hn12 := fuse_n s9 q2
    obtain ⟨s12, hs12⟩ : ∃ s12, s9.fuse q2 = s12 := ⟨_, rfl⟩
    rw [hs12] at hD12 hG12 hn12
    rw [HD9.out.sn] at hn12
    have hms := mount_some (S := Z) hD12 hG12 ((HW.out.1.below H1.out).below hO12) (by omega)
    have H12 := Lib.hid (And.intro hM12 (And.intro hP12 (And.intro hm12 (And.intro hO12 (And.intro hD12 (And.intro hG12 hn12))))))
    clear hfu hD12 hT12 hty hx1 hx2 hM12 hP12 hm12 hw9 hO12 hG12 hn12 hs12
    go_wp2_with fail
    refine hms.mono ?_
    rintro e w13 ⟨u1, u2, rfl, hO13⟩
    have hO13' := Old.trans H12.out.2.2.2.1 hO13
    have hkp := keeper_two Ak mk ck ks a3 w13 HW.out.2.2.2.1 ((HW.out.2.2.2.2.below H1.out).below hO13')
    have H13 := Lib.hid (And.intro (H12.out.1.below hO13) (And.intro (H12.out.2.1.below hO13) (And.intro (H12.out.2.2.1.below hO13) (And.intro hO13' (H12.out.2.2.2.2.1.below hO13)))))
    clear hms hO13 hO13'
    go_wp2_with fail
    refine hkp.mono ?_
    rintro e w14 ⟨bx3, rfl, hk14, hO14⟩
    have hcr := dk_keep bx3 Ak ck ks a3 HB2.out (H13.out.2.2.2.2.below hO14) hk14
    have H14 := Lib.hid (And.intro (H13.out.1.below hO14) (And.intro (H13.out.2.1.below hO14) (And.intro (H13.out.2.2.1.below hO14) (Old.trans H13.out.2.2.2.1 hO14))))
    clear hkp hk14 hO14
    go_wp2_with fail
    refine hcr.mono ?_
    rintro e w15 ⟨d15, L15, rfl, hD15, hd15, hL15, hO15⟩
    obtain ⟨f1, f2, f3⟩ := crash_fresh s12 (keptB ks a3)
    have hn15 := crash_n s12 (keptB ks a3)
    have hG15 := H12.out.2.2.2.2.2.1.crash (keptB ks a3)
    obtain ⟨s15, hs15⟩ : ∃ s15, s12.crash (keptB ks a3) = s15 := ⟨_, rfl⟩
    have hDv : Dev w15 d15 L15 (n + 1) s15 Z (after (rs.map (·.l)) (ps.map toPut)) := ⟨by rw [← hs15]; exact hD15, by rw [← hs15]; exact hG15, by rw [← hs15, hn15]; exact H12.out.2.2.2.2.2.2, by rw [← hs15]; exact f2, by rw [← hs15]; exact f1⟩
    have hO15' := Old.trans H14.out.2.2.2 hO15
    have hmn := hDv.mount H3.out.1.hB ((HW.out.1.below H1.out).below hO15') (by omega)
    have HN15 := Lib.hid (And.intro H14.out.2.2.1.lt (And.intro hd15 (And.intro hL15 (And.intro hO15.size (And.intro H14.out.2.2.2.size (show FOk s15 0 by rw [← hs15]; exact f3))))))
    have H15 := Lib.hid (And.intro (H14.out.1.below hO15) (And.intro (H14.out.2.1.below hO15) (And.intro (H14.out.2.2.1.below hO15) hO15')))
    clear hcr hD15 hd15 hL15 hO15 hO15' f1 f2 f3 hn15 hG15 hs15 hDv
    go_wp2_with fail
    refine hmn.mono ?_
    rintro e w16 ⟨v16, rfl, hv16, hm16, _, hO16⟩
    have HN16 := Lib.hid hv16
    have hco1 := commits_any v16 d15 m2 (n + 1) false w16 hm16.V
    have hco2 := commits_any v11 d10 m2 (n + 1) false w16 (H15.out.2.2.1.below hO16).V
    have H16 := Lib.hid (And.intro (H15.out.1.below hO16) (And.intro (H15.out.2.1.below hO16) (And.intro (H15.out.2.2.1.below hO16) (And.intro (Old.trans H15.out.2.2.2 hO16) hm16))))
    clear hmn hv16 hm16 hO16
    go_wp2_with fail
    refine hco1.mono ?_
    rintro e w' ⟨rfl, rfl⟩
    go_wp2_with fail
    refine hco2.mono ?_
    rintro e w' ⟨rfl, rfl⟩
    clear hco2
    go_wp2_with fail
    refine hco1.mono ?_
    rintro e w' ⟨rfl, rfl⟩
    go_wp2_with fail
    clear hco1
    go_loopw [26] (fun iv wr => ∃ k : Nat, k ≤ m2 ∧ iv = .int .i64 (k : Int) ∧ Old w16 wr) (fun iv _ => m2 - (intOf iv).toNat)
    case atStart => exact ⟨0, by omega, rfl, Old.refl _⟩
    case round =>
      obtain ⟨i, hi, rfl, hO⟩ := hrel
      by_cases hlt : i < m2
      · have hlti : (i : Int) < m2 := by omega
        have hltd : decide ((i : Int) < (m2 : Int)) = true := decide_eq_true hlti
        have hr1 := fun W (hW : Old wr W) => ((H16.out.2.2.2.2.below hO).below hW).read H3.out.1.hB (by omega) i hlt
        have hr2 := fun W (hW : Old wr W) => ((H16.out.2.2.1.below hO).below hW).read H3.out.1.hB (by omega) i hlt
        have HR := Lib.hid (And.intro hO (And.intro hr1 hr2))
        clear hO hr1 hr2
        go_wp2_with fail
        refine region_old (by kernel_rfl) (fun wd hHeld hSz => ?_)
        have HSz := Lib.hid hSz
        clear hSz
        refine takeL (i := 0) (v := ?_) rfl (by kernel_rfl) (by kernel_rfl) (by kernel_rfl) (fun _ _ _ h => h) (Or.inl ⟨by rfl, ?_⟩) hHeld ?_
        rotate_left
        focus (intro wq hSw; clear hSw; go_simp; try with_reducible rfl)
        try simp only [Act.put, List.setIfInBounds_toArray, List.set_cons_zero, List.set_cons_succ]
        refine takeL (i := 1) (v := ?_) rfl (by kernel_rfl) (by kernel_rfl) (by kernel_rfl) (fun _ _ _ h => h) (Or.inl ⟨by rfl, ?_⟩) hHeld ?_
        rotate_left
        focus (intro wq hSw; clear hSw; go_simp; try with_reducible rfl)
        try simp only [Act.put, List.setIfInBounds_toArray, List.set_cons_zero, List.set_cons_succ]
        refine takeL (i := 4) (v := ?_) rfl (by kernel_rfl) (by kernel_rfl) (by kernel_rfl) (fun _ _ _ h => h) (Or.inl ⟨by rfl, ?_⟩) hHeld ?_
        rotate_left
        focus (intro wq hSw; clear hSw; go_simp; try with_reducible rfl)
        try simp only [Act.put, List.setIfInBounds_toArray, List.set_cons_zero, List.set_cons_succ]
        refine takeL (i := 5) (v := ?_) rfl (by kernel_rfl) (by kernel_rfl) (by kernel_rfl) (fun _ _ _ h => h) (Or.inl ⟨by rfl, ?_⟩) hHeld ?_
        rotate_left
        focus (intro wq hSw; clear hSw; go_simp; try with_reducible rfl)
        try simp only [Act.put, List.setIfInBounds_toArray, List.set_cons_zero, List.set_cons_succ]
        refine wpAnyH_ready (rs := [2]) (by kernel_rfl) (by simp) ?_
        refine consL rfl (fun K hK => ?_) AllReadyH.nil
        go_simp
        refine (HR.out.2.1 wd hHeld).mono ?_
        rintro e w20 ⟨g2, c20, rfl, hO2, hb2⟩
        have hb2' := Old.trans hHeld hb2
        clear hb2
        refine hK.out _ _ hb2' (fun hHeld => ?_)
        clear hK K
        try simp only [Act.put, List.setIfInBounds_toArray, List.set_cons_zero, List.set_cons_succ]
        refine wpAnyH_old (w1 := w20) hb2' (fun hHeld => ?_) (Old.refl _)
        refine takeL (i := 3) (v := ?_) rfl (by kernel_rfl) (by kernel_rfl) (by kernel_rfl) (fun _ _ _ h => h) (Or.inl ⟨by rfl, ?_⟩) hHeld ?_
        rotate_left
        focus (intro wq hSw; have hRun := hO2.rd.str_below hSw; clear hSw; go_simp; try with_reducible rfl)
        try simp only [Act.put, List.setIfInBounds_toArray, List.set_cons_zero, List.set_cons_succ]
        refine wpAnyH_ready (rs := [6]) (by kernel_rfl) (by simp) ?_
        refine consL rfl (fun K hK => ?_) AllReadyH.nil
        go_simp
        refine (HR.out.2.2 _ (Old.trans hb2' hHeld)).mono ?_
        rintro e w21 ⟨g3, c21, rfl, hO3, hb3⟩
        have hb3' := Old.trans (Old.trans hb2' hHeld) hb3
        have hb4' := Old.trans hHeld hb3
        refine hK.out _ _ hb4' (fun hHeld => ?_)
        clear hK K
        try simp only [Act.put, List.setIfInBounds_toArray, List.set_cons_zero, List.set_cons_succ]
        refine wpAnyH_old (w1 := w21) hb4' (fun hHeld => ?_) (Old.refl _)
        refine takeL (i := 7) (v := ?_) rfl (by kernel_rfl) (by kernel_rfl) (by kernel_rfl) (fun _ _ _ h => h) (Or.inl ⟨by rfl, ?_⟩) hHeld ?_
        rotate_left
        focus (intro wq hSw; have hRun := hO3.rd.str_below hSw; clear hSw; go_simp; try with_reducible rfl)
        try simp only [Act.put, List.setIfInBounds_toArray, List.set_cons_zero, List.set_cons_succ]
        refine takeL (i := 8) (v := ?_) rfl (by kernel_rfl) (by kernel_rfl) (by kernel_rfl) (fun _ _ _ h => h) (Or.inl ⟨by rfl, ?_⟩) hHeld ?_
        rotate_left
        focus (intro wq hSw; clear hSw; go_simp; try with_reducible rfl)
        try simp only [Act.put, List.setIfInBounds_toArray, List.set_cons_zero, List.set_cons_succ]
        refine wpAnyH_done (by kernel_rfl) ?_ _
        refine NoPanic.normal ?_
        try simp only [Exit.then]
        have hOh := Old.trans hb3' hHeld
        have HF := Lib.hid (Old.trans HR.out.1 hOh)
        try simp only [bne_self_eq_false, beq_self_eq_true, Bool.not_true]
        clear hHeld hOh hb2' hb3' hb4' hO2 hO3
        go_wp2_with fail
        go_roundw
        case measure => simp [intOf]; omega
        exact ⟨i + 1, by omega, by simp, HF.out⟩
      · obtain rfl : i = m2 := by omega
        have hlti : ¬ (i : Int) < i := by omega
        have hltd : decide ((i : Int) < (i : Int)) = false := decide_eq_false hlti
        have hy := H16.out.2.2.2.2.below hO
        have hcm := hy.commit H3.out.1.hB ((HW.out.1.below H1.out).below (Old.trans H16.out.2.2.2.1 hO)) (by omega) HN15.out.2.2.2.2.2 (H16.out.2.1.below hO) HM.out.1 HM.out.2
        have HR := Lib.hid (And.intro hO hy)
        clear hO hy
        go_wp2_with fail
        refine hcm.mono ?_
        rintro e w17 ⟨s17, rfl, hm17, hT17⟩
        have hty := HR.out.2.types
        have hx1 := HN15.out
        have hx2 := HN16.out
        have hM17 : ModAt w17 w1.heap.size (.slice A2 i c2) rs := (H16.out.1.below HR.out.1).turn hT17 fun g hg => by obtain ⟨t, cs, i1, i2, i3, _⟩ := hty g hg; exact ⟨t, cs, i1, i2, i3⟩
        have hP17 : PutsOwn w17 w2.heap.size (.slice A7 ps.length c7) ps := (H16.out.2.1.below HR.out.1).turn hT17 fun g hg => by obtain ⟨t, cs, i1, i2, _, i3⟩ := hty g hg; exact ⟨t, cs, i1, i2, i3⟩
        have hf17 : Mnt w17 d10 L10 v11 i (n + 1) s10 Z (after (rs.map (·.l)) (ps.map toPut)) := (H16.out.2.2.1.below HR.out.1).turn hT17 (by simp; omega) (by simp; omega) (by simp; omega) fun g hg => by obtain ⟨t, cs, i1, i2, _⟩ := hty g hg; exact ⟨t, cs, i1, i2⟩
        have hO17 : Old w1 w17 := below_turn (Old.trans H16.out.2.2.2.1 HR.out.1) hT17 (by simp; omega) (Old.trans H16.out.2.2.2.1 HR.out.1).size
        have haf := H3.out.1.after_call (w' := w17) hM17 hO17 H2.out.O.size hP17 HM.out.1
        have H17 := Lib.hid (And.intro hm17 (And.intro hf17 hO17))
        clear hcm hm17 hT17 hty hx1 hx2 hM17 hP17 hf17 hO17
        go_wp2_with fail
        refine haf.mono ?_
        rintro e w18 ⟨A8, m8, c8, rs8, rfl, hM8, hrs8, hO18⟩
        have his := (H17.out.1.below hO18).is_good (A := A8) (m := m8) (c := c8) hM8 (by rw [hrs8]; exact (after_twice _ _).symm) H3.out.1.hB (by omega)
        have H18 := Lib.hid (And.intro (H17.out.1.below hO18) (And.intro (H17.out.2.1.below hO18) (Old.trans H17.out.2.2 hO18)))
        clear haf hM8 hrs8 hO18
        go_wp2_with fail
        refine his.mono ?_
        rintro e w19 ⟨rfl, hO19⟩
        have hco1 := commits_any v16 d15 i ((n + 1) + 1) false w19 (H18.out.1.below hO19).V
        have hco2 := commits_any v11 d10 i (n + 1) false w19 (H18.out.2.1.below hO19).V
        have H19 := Lib.hid (Old.trans H1.out (Old.trans H18.out.2.2 hO19))
        clear his hO19
        go_wp2_with fail
        refine hco1.mono ?_
        rintro e w' ⟨rfl, rfl⟩
        go_wp2_with fail
        refine hco2.mono ?_
        rintro e w' ⟨rfl, rfl⟩
        go_wp2_with fail
        go_ret
        exact ⟨rfl, H19.out⟩
end Go.Proofs.YtomngfihaohgdaaDoor
