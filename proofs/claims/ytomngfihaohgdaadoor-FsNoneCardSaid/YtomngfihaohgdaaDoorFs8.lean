/-
  blockfs: turn.
-/
import Derived.Test.YtomngfihaohgdaaDoorFs7
namespace Go.Proofs.YtomngfihaohgdaaDoor
set_option maxRecDepth 100000
open Go.RowKit

theorem region_turn {P : Program} {ops : Array Oper} {Q : Exit → Act → World → Prop} {id : Nat} {a : Act} {w : World} (T : List Nat) (hm : P.follows .mixedOrders = true)
    (h : ∀ wd, Old w wd → Turn T w wd → w.heap.size = wd.heap.size → wpAnyH P .any ops (NoPanic Q) (Turn T w) ops.size (Array.replicate ops.size false) a wd) : (Code.region id ops true).wp P Q a w :=
  wp_region_noPanic (wp_region_held_drew hm (Turn.drew (Turn.refl T w)) (fun hS => h _ (Old.drew (Old.refl w)) hS rfl))
def toPut (p : PutV) : Nat × List UInt8 := (p.blk.toNat, p.l)
def rowsF (ps : List PutV) : Int → Option Value := ps.foldl (fun f p => putB f p.blk (.slice p.A p.n p.c)) (fun _ => none)
theorem rowsF_take {ps : List PutV} {k : Nat} {p : PutV} (hk : ps[k]? = some p) : rowsF (ps.take (k + 1)) = putB (rowsF (ps.take k)) p.blk (.slice p.A p.n p.c) := by
  unfold rowsF
  rw [List.take_add_one, hk, List.foldl_append]
  rfl
theorem rowsF_spec (ps : List PutV) (h : ∀ p ∈ ps, 0 ≤ p.blk) (i : Nat) :
    (rowsF ps i = none ∧ lastPut (ps.map toPut) i = none) ∨ ∃ p, p ∈ ps ∧ rowsF ps i = some (.slice p.A p.n p.c) ∧ lastPut (ps.map toPut) i = some p.l := by
  induction ps using snocP with
  | h0 => exact .inl ⟨rfl, rfl⟩
  | h1 l p ih =>
    have e1 : rowsF (l ++ [p]) = putB (rowsF l) p.blk (.slice p.A p.n p.c) := by unfold rowsF; rw [List.foldl_append]; rfl
    rw [e1, List.map_append, List.map_cons, List.map_nil, lastPut_snoc]
    unfold putB toPut
    have hp := h p (by simp)
    by_cases he : (i : Int) = p.blk
    · rw [if_pos he, if_pos (by simp only; omega)]
      exact .inr ⟨p, by simp, rfl, rfl⟩
    · rw [if_neg he, if_neg (by simp only; omega)]
      rcases ih (fun q hq => h q (by simp [hq])) with h1 | ⟨q, h1, h2⟩
      · exact .inl h1
      · exact .inr ⟨q, by simp [h1], h2⟩
theorem row_append (ys : List (List UInt8)) : ∀ (xs : List (List UInt8)) (s : Dsk) (i : Nat), s.row i (xs ++ ys) = if (s.row i xs).1 = true then (s.row i xs).2.row (i + xs.length) ys else (false, (s.row i xs).2)
  | [], s, i => by unfold Dsk.row; simp; cases ys <;> simp [Dsk.row] <;> rfl
  | x :: xs, s, i => by
    show (if (s.wrote i x).1 then (s.wrote i x).2.row (i + 1) (xs ++ ys) else (false, (s.wrote i x).2)) = _
    have e : s.row i (x :: xs) = if (s.wrote i x).1 then (s.wrote i x).2.row (i + 1) xs else (false, (s.wrote i x).2) := rfl
    rw [e]
    by_cases h : (s.wrote i x).1 = true
    · rw [if_pos h, if_pos h, row_append ys xs, List.length_cons, show i + 1 + xs.length = i + (xs.length + 1) by omega]
    · rw [if_neg h, if_neg h, if_neg (by simp)]
theorem row_one (s : Dsk) (i : Nat) (b : List UInt8) : s.row i [b] = s.wrote i b := by
  show (if (s.wrote i b).1 then (s.wrote i b).2.row (i + 1) [] else (false, (s.wrote i b).2)) = _
  cases h : s.wrote i b with
  | mk ok s' => cases ok <;> simp [Dsk.row]
theorem row_step {s sr : Dsk} {i0 i : Nat} {m2 : List (List UInt8)} {b : List UInt8} (h : s.row i0 (m2.take i) = (true, sr)) (hb : m2[i]? = some b) : s.row i0 (m2.take (i + 1)) = sr.wrote (i0 + i) b := by
  have hi := (List.getElem?_eq_some_iff.1 hb).1
  rw [List.take_add_one, hb, Option.toList_some, row_append, h, if_pos rfl, List.length_take, Nat.min_eq_left (by omega), row_one]
theorem row_stop {s sr sw : Dsk} {i0 i : Nat} {m2 : List (List UInt8)} {b : List UInt8} (h : s.row i0 (m2.take i) = (true, sr)) (hb : m2[i]? = some b) (hw : sr.wrote (i0 + i) b = (false, sw)) : s.row i0 m2 = (false, sw) := by
  have h1 := row_step h hb
  rw [hw] at h1
  have := row_append (m2.drop (i + 1)) (m2.take (i + 1)) s i0
  rw [List.take_append_drop, h1] at this
  rw [this, if_neg (by simp)]
set_option maxHeartbeats 2000000 in
theorem turn_any (v d L B c k P cp : Nat) (br : Bool) (ps : List PutV) (s : Dsk) (m : List (List UInt8)) (w : World) (hV : VolB w v d B c br) (hD : DkAt w d L s) (hK : KAt w) (hP : PutsAt w P ps)
    (hne : ∀ p ∈ ps, ∀ ad, p.A = some ad → ad.block ∉ [d, L]) (hm : mayP B ps = true) (hB : (s.n - 8) / 2 = B) (hn16 : 16 ≤ s.n) (hn2 : s.n ≤ 1000) (hc : c < 10000) (hf : FOk s k) (hk : k < 10000)
    (hml : m.length = B) (hside : ∀ i b, m[i]? = some b → Cl s (8 + c % 2 * B + i) b) :
    Calls Tryd.prog 35 #[.pointer (some ⟨v, 0, none⟩), .slice (some ⟨P, 0, none⟩) ps.length cp] w fun e w' =>
      e = .returned (.bool (s.turnW headB c (after m (ps.map toPut))).1) ∧ DkAt w' d L (s.turnW headB c (after m (ps.map toPut))).2 ∧ Turn [d, L] w w' := by
  have hmy := hm
  unfold mayP at hmy
  rw [Bool.and_eq_true, decide_eq_true_iff, List.all_eq_true] at hmy
  have hok : ∀ p ∈ ps, 0 ≤ p.blk ∧ p.blk < B ∧ p.l.length = 256 := fun p hp => by
    have := hmy.2 p hp
    unfold okP at this
    simp at this
    omega
  obtain ⟨N, hN⟩ : ∃ N, ps.length = N := ⟨_, rfl⟩
  obtain ⟨m2, hm2⟩ : ∃ m2, after m (ps.map toPut) = m2 := ⟨_, rfl⟩
  have hm2l : m2.length = B := by rw [← hm2, after_len, hml]
  have hvd : v ∉ [d, L] := by
    obtain ⟨⟨cs, h1⟩, cs2, h2⟩ := hD.typed
    simp
    exact ⟨Blk.ne_ hV h1 (by decide), Blk.ne_ hV h2 (by decide)⟩
  obtain ⟨q, hq⟩ : ∃ q, s.turnW headB c m2 = q := ⟨_, rfl⟩
  rw [hN, hm2, hq]
  unfold Dsk.turnW at hq
  rw [hB] at hq
  obtain ⟨i0, hi0⟩ : ∃ i0, 8 + (c + 1) % 2 * B = i0 := ⟨_, rfl⟩
  rw [hi0] at hq
  have hin := side_in (c := c) hn16
  have hin2 := side_in (c := c + 1) hn16
  rw [hB] at hin hin2
  have HQ := Lib.hid hq
  have HV := Lib.hid (And.intro hV (And.intro hD (And.intro hK (And.intro hP (And.intro hne (And.intro hok (And.intro hN hvd)))))))
  have HM := Lib.hid (And.intro hm2 (And.intro hm2l (And.intro hml (And.intro hside (And.intro hf (And.intro hB (And.intro hi0 (And.intro hin (And.intro hin2 (And.intro hn16 hn2))))))))))
  have hNB : N ≤ B := by rw [← hN]; exact hmy.1
  have hB5 : B ≤ 496 := by omega
  clear hV hD hK hP hne hm hmy hok hN hm2 hm2l hml hside hf hB hi0 hin hin2 hn16 hn2 hvd hq
  have hmm := @run_makeMap Tryd.prog
  go_enter Tryd.func35, Tryd.ntmps35
  go_wp2_with fail
  clear hmm
  obtain ⟨M, hM⟩ : ∃ M, w.heap.size = M := ⟨_, rfl⟩
  obtain ⟨w0, hw0⟩ : ∃ w0, w.alloc (.map #[] 0) = w0 := ⟨_, rfl⟩
  have hO0 : Old w w0 := by rw [← hw0]; exact (Old.refl w).alloc _
  have hB0 : BMap w0 M 0 (fun _ => none) := by rw [← hw0, ← hM]; exact BMap.made w
  have HM0 := Lib.hid (And.intro hO0 (And.intro hB0 hM))
  rw [hM, hw0]
  clear hO0 hB0 hw0 hM
  go_loopw [15] (fun i wr => ∃ k : Nat, k ≤ N ∧ i = .int .i64 (k : Int) ∧ Old w wr ∧ BMap wr M k (rowsF (ps.take k))) (fun i _ => N - (intOf i).toNat)
  case atStart => exact ⟨0, by omega, rfl, HM0.out.1, HM0.out.2.1⟩
  case round =>
    obtain ⟨j, hj, rfl, hO, hA⟩ := hrel
    have HR := Lib.hid (And.intro hO hA)
    clear hO hA
    by_cases hlt : j < N
    · have hlti : (j : Int) < N := by omega
      have hltd : decide ((j : Int) < (N : Int)) = true := decide_eq_true hlti
      obtain ⟨p, hp⟩ : ∃ p, ps[j]? = some p := ⟨_, List.getElem?_eq_getElem (by rw [HV.out.2.2.2.2.2.2.1]; exact hlt)⟩
      have hPr := HV.out.2.2.2.1.below HR.out.1
      obtain ⟨k0, k1, _⟩ := hPr.at_ j p hp
      have hok := HV.out.2.2.2.2.2.1 p (List.mem_of_getElem? hp)
      have hst := rowsF_take hp
      obtain ⟨blk, A2, n2, c2, l2⟩ := p
      simp only at k0 k1 hok hst
      have hwf := wf64_small hok.1 (by omega)
      have hjm : j < maxLen := by unfold maxLen; omega
      have HP := Lib.hid (And.intro hst (And.intro hwf hjm))
      clear hPr hp hok hst hwf hjm
      go_wp2_with (first | (at_mapUpdate; go_must (refine wp_putB _ _ _ M j (rowsF (ps.take j)) blk (.slice A2 n2 c2) (BMap.turn HR.out.2 ((Turn.refl [] _).alloc _) (by simp)) HP.out.2.2 HP.out.2.1 rfl rfl rfl rfl rfl ?_); intro w2 hm2 ht2; have H2 := Lib.hid (And.intro hm2 ht2); clear hm2 ht2))
      go_roundw
      case measure => simp [intOf]; omega
      have hOl : Old w w2 := by
        have hl := BMap.lt HM0.out.2.1
        have := ((Turn.of_below [M] HR.out.1).alloc _).trans H2.out.2 (fun x hx => .inl hx)
        exact ⟨this.os, this.tape, this.output, this.size, fun k hk => this.block k hk (by rw [List.mem_singleton]; have := HM0.out.2.2; omega)⟩
      exact ⟨j + 1, by omega, by simp, hOl, by rw [HP.out.1]; exact H2.out.1⟩
    · obtain rfl : j = N := by omega
      have hlti : ¬ (j : Int) < j := by omega
      have hltd : decide ((j : Int) < (j : Int)) = false := decide_eq_false hlti
      have hBm := HR.out.2
      rw [List.take_of_length_le (by rw [HV.out.2.2.2.2.2.2.1]; omega)] at hBm
      obtain ⟨w1, hw1⟩ : ∃ w1, w1 = wr := ⟨_, rfl⟩
      subst hw1
      have hV1 : VolB w1 v d B c br := Blk.below HV.out.1 HR.out.1
      have HW := Lib.hid (And.intro hBm (And.intro hV1 (And.intro (HV.out.2.1.below HR.out.1) (And.intro (HV.out.2.2.1.below HR.out.1) HR.out.1))))
      have hcs := hV1.cells
      clear hBm hV1
      go_wp2_with fail
      clear hcs
      go_loopw [29] (fun i wr => ∃ (i' : Nat) (sr : Dsk), i' ≤ B ∧ i = .int .i64 (i' : Int) ∧ s.row i0 (m2.take i') = (true, sr) ∧ DkAt wr d L sr ∧ Turn [d, L] w1 wr) (fun i _ => B - (intOf i).toNat)
      case atStart => exact ⟨0, s, by omega, rfl, rfl, HW.out.2.2.1, Turn.refl _ _⟩
      case round =>
        obtain ⟨i, sr, hi, rfl, hrow, hDr, hTr⟩ := hrel
        have hVr : VolB wr v d B c br := Blk.turn HW.out.2.1 hTr HV.out.2.2.2.2.2.2.2
        have hdid := row_did (m2.take i) s i0
        have hfok := row_fok (m2.take i) s i0 k HM.out.2.2.2.2.1
        have htl : (m2.take i).length = i := by rw [List.length_take, HM.out.2.1]; omega
        have hcl := fun j b => row_cl (m2.take i) s i0 j b
        rw [hrow] at hdid hfok hcl
        rw [htl] at hfok
        simp only at hdid hfok hcl
        have HR2 := Lib.hid (And.intro hrow (And.intro hDr (And.intro hTr (And.intro hVr (And.intro hdid (And.intro hfok hcl))))))
        clear hrow hDr hTr hVr hdid hfok hcl htl
        by_cases hlt2 : i < B
        · have hlt2i : (i : Int) < B := by omega
          have hlt2d : decide ((i : Int) < (B : Int)) = true := decide_eq_true hlt2i
          obtain ⟨b0, hb0⟩ : ∃ b0, m[i]? = some b0 := ⟨_, List.getElem?_eq_getElem (by rw [HM.out.2.2.1]; exact hlt2)⟩
          have hrd : sr.rd (8 + c % 2 * B + i) = b0 := by
            refine (HR2.out.2.2.2.2.2.2 (8 + c % 2 * B + i) b0 (HM.out.2.2.2.1 i b0 hb0) ?_ ?_).1
            · rw [List.length_take, HM.out.2.1]; have := HM.out.2.2.2.2.2.2.2.2.1; have := HM.out.2.2.2.2.2.2.1; omega
            · rw [List.length_take, HM.out.2.1]
              have hh := side_apart (n := s.n) (c := c) (i := i) (i2 := i0) (j := 8 + c % 2 * B + i) (j2 := i0 + B) (by rw [HM.out.2.2.2.2.2.1]; exact hlt2) (by rw [HM.out.2.2.2.2.2.1]) (by rw [HM.out.2.2.2.2.2.1]; exact HM.out.2.2.2.2.2.2.1) (by rw [HM.out.2.2.2.2.2.1])
              omega
          have hmb := after_get m (ps.map toPut) i (by rw [HM.out.2.2.1]; exact hlt2)
          rw [HM.out.1, hb0, Option.getD_some] at hmb
          have hspec := rowsF_spec ps (fun p hp => (HV.out.2.2.2.2.2.1 p hp).1) i
          have hlk := BMap.look (BMap.turn HW.out.1 HR2.out.2.2.1 (by have := HV.out.2.1.lt; have := HM0.out.2.2; simp; omega)) (i : Int) (wf64_small (by omega) (by omega))
          have HI := Lib.hid (And.intro hb0 (And.intro hrd hmb))
          clear hb0 hrd
          rcases hspec with ⟨hr0, hl0⟩ | ⟨p, hpm, hr0, hl0⟩
          · rw [hr0] at hlk
            simp only [Option.getD_none, Option.isSome_none] at hlk
            rw [hl0, Option.getD_none] at hmb
            have hrdc := volread_any v d L B c br sr wr HR2.out.2.2.2.1 HR2.out.2.1 (by omega) (by omega) (by have := HM.out.2.2.2.2.2.2.2.1; have := HR2.out.2.2.2.2.1.n; omega) i hlt2
            rw [HI.out.2.1] at hrdc
            have HMB := Lib.hid hmb
            clear hr0 hl0 hmb
            go_wp2_with fail
            refine hrdc.mono ?_
            rintro e wx ⟨gx, cx, rfl, hOx, hlx, hbx⟩
            clear hrdc hlk
            have HX := Lib.hid (And.intro (HR2.out.2.1.below hbx) (And.intro (VolB.cells (Blk.below HR2.out.2.2.2.1 hbx)) (And.intro hOx.at_ (And.intro hlx (And.intro (show 256 ≤ cx ∧ cx ≤ maxLen from ⟨hOx.rd.2.1, hOx.rd.2.2.1⟩) (HR2.out.2.2.1.trans (Turn.of_below [d, L] hbx) (fun x hx => .inl hx)))))))
            clear hOx hlx hbx
            go_wp2_with fail
            obtain ⟨qb, hqb⟩ : ∃ qb, i0 + i = qb := ⟨_, rfl⟩
            have hsd : ∀ W, Calls Tryd.prog 32 #[.int .i64 (B : Int), .int .i64 ((c : Int) + 1), .int .i64 (i : Int)] W fun e w' => e = .returned (.int .i64 (qb : Int)) ∧ W = w' := fun W => by
              have := side_any B (c + 1) i (by omega) (by omega) (by omega) W
              rw [HM.out.2.2.2.2.2.2.1, hqb] at this
              exact this
            have hqn : qb < sr.n := by have := HM.out.2.2.2.2.2.2.2.2.1; have := HM.out.2.2.2.2.2.2.1; have := HR2.out.2.2.2.2.1.n; omega
            obtain ⟨wok, sw, hwr⟩ : ∃ wok sw, sr.wrote qb b0 = (wok, sw) := ⟨_, _, rfl⟩
            have hwo : ∀ W, DkAt W d L sr → At W gx 0 b0 → Calls Tryd.prog 30 #[.pointer (some ⟨d, 0, none⟩), .int .i64 (qb : Int), .slice (some ⟨gx, 0, none⟩) 256 cx] W fun e w' => e = .returned (.bool wok) ∧ DkAt w' d L sw ∧ Turn [d, L] W w' := fun W hDW hAW => by
              have := wrote_any d L sr W (k + i) hDW HR2.out.2.2.2.2.2.1 (by omega) qb hqn gx 0 cx b0 hAW HX.out.2.2.2.1 HX.out.2.2.2.2.1
              rw [hwr] at this
              exact this
            have HS := Lib.hid (And.intro hsd (And.intro hwo (And.intro hwr hqb)))
            have g1 : IntKind.i64.wrap ((c : Int) + 1) = (c : Int) + 1 := IntWalk.i64_in _ (by omega)
            have HV0 := Lib.hid HX.out.2.1.1
            have HV1 := Lib.hid HX.out.2.1.2.1
            have HV2 := Lib.hid HX.out.2.1.2.2.1
            clear hsd hwo hwr hqb hqn
            refine region_turn [d, L] (by kernel_rfl) (fun wd hOd hHeld hSz => ?_)
            have HSz := Lib.hid hSz
            clear hSz
            refine takeL (i := 0) (v := ?_) rfl (by kernel_rfl) (by kernel_rfl) (by kernel_rfl) (fun _ _ _ h => h) (Or.inl ⟨by rfl, ?_⟩) hHeld ?_
            rotate_left
            focus (intro wq hSw; clear hSw; go_simp; try with_reducible rfl)
            try simp only [Act.put, List.setIfInBounds_toArray, List.set_cons_zero, List.set_cons_succ]
            refine takeL (i := 1) (v := ?_) rfl (by kernel_rfl) (by kernel_rfl) (by kernel_rfl) (fun _ _ _ h => h) (Or.inl ⟨by rfl, ?_⟩) hHeld ?_
            rotate_left
            focus (intro wq hSw; clear hSw; go_simp; try with_reducible rfl)
            try simp only [Act.put, List.setIfInBounds_toArray, List.set_cons_zero, List.set_cons_succ]
            refine takeL (i := 2) (v := ?_) rfl (by kernel_rfl) (by kernel_rfl) (by kernel_rfl) (fun _ _ _ h => h) (Or.inl ⟨by rfl, ?_⟩) hHeld ?_
            rotate_left
            focus (intro wq hSw; clear hSw; go_simp; try with_reducible rfl)
            try simp only [Act.put, List.setIfInBounds_toArray, List.set_cons_zero, List.set_cons_succ]
            refine takeL (i := 3) (v := ?_) rfl (by kernel_rfl) (by kernel_rfl) (by kernel_rfl) (fun _ _ _ h => h) (Or.inl ⟨by rfl, ?_⟩) hHeld ?_
            rotate_left
            focus (intro wq hSw; have zz := cell_turn HV0.out hSw HV.out.2.2.2.2.2.2.2; clear hSw; go_simp; try with_reducible rfl)
            try simp only [Act.put, List.setIfInBounds_toArray, List.set_cons_zero, List.set_cons_succ]
            refine takeL (i := 4) (v := ?_) rfl (by kernel_rfl) (by kernel_rfl) (by kernel_rfl) (fun _ _ _ h => h) (Or.inl ⟨by rfl, ?_⟩) hHeld ?_
            rotate_left
            focus (intro wq hSw; clear hSw; go_simp; try with_reducible rfl)
            try simp only [Act.put, List.setIfInBounds_toArray, List.set_cons_zero, List.set_cons_succ]
            refine takeL (i := 5) (v := ?_) rfl (by kernel_rfl) (by kernel_rfl) (by kernel_rfl) (fun _ _ _ h => h) (Or.inl ⟨by rfl, ?_⟩) hHeld ?_
            rotate_left
            focus (intro wq hSw; clear hSw; go_simp; try with_reducible rfl)
            try simp only [Act.put, List.setIfInBounds_toArray, List.set_cons_zero, List.set_cons_succ]
            refine takeL (i := 6) (v := ?_) rfl (by kernel_rfl) (by kernel_rfl) (by kernel_rfl) (fun _ _ _ h => h) (Or.inl ⟨by rfl, ?_⟩) hHeld ?_
            rotate_left
            focus (intro wq hSw; clear hSw; go_simp; try with_reducible rfl)
            try simp only [Act.put, List.setIfInBounds_toArray, List.set_cons_zero, List.set_cons_succ]
            refine takeL (i := 7) (v := ?_) rfl (by kernel_rfl) (by kernel_rfl) (by kernel_rfl) (fun _ _ _ h => h) (Or.inl ⟨by rfl, ?_⟩) hHeld ?_
            rotate_left
            focus (intro wq hSw; have zz := cell_turn HV1.out hSw HV.out.2.2.2.2.2.2.2; clear hSw; go_simp; try with_reducible rfl)
            try simp only [Act.put, List.setIfInBounds_toArray, List.set_cons_zero, List.set_cons_succ]
            refine takeL (i := 8) (v := ?_) rfl (by kernel_rfl) (by kernel_rfl) (by kernel_rfl) (fun _ _ _ h => h) (Or.inl ⟨by rfl, ?_⟩) hHeld ?_
            rotate_left
            focus (intro wq hSw; clear hSw; go_simp; try with_reducible rfl)
            try simp only [Act.put, List.setIfInBounds_toArray, List.set_cons_zero, List.set_cons_succ]
            refine takeL (i := 9) (v := ?_) rfl (by kernel_rfl) (by kernel_rfl) (by kernel_rfl) (fun _ _ _ h => h) (Or.inl ⟨by rfl, ?_⟩) hHeld ?_
            rotate_left
            focus (intro wq hSw; clear hSw; go_simp; try with_reducible rfl)
            try simp only [Act.put, List.setIfInBounds_toArray, List.set_cons_zero, List.set_cons_succ]
            refine takeL (i := 10) (v := ?_) rfl (by kernel_rfl) (by kernel_rfl) (by kernel_rfl) (fun _ _ _ h => h) (Or.inl ⟨by rfl, ?_⟩) hHeld ?_
            rotate_left
            focus (intro wq hSw; clear hSw; go_simp; try with_reducible rfl)
            try simp only [Act.put, List.setIfInBounds_toArray, List.set_cons_zero, List.set_cons_succ]
            refine takeL (i := 11) (v := ?_) rfl (by kernel_rfl) (by kernel_rfl) (by kernel_rfl) (fun _ _ _ h => h) (Or.inl ⟨by rfl, ?_⟩) hHeld ?_
            rotate_left
            focus (intro wq hSw; have zz := cell_turn HV2.out hSw HV.out.2.2.2.2.2.2.2; clear hSw; go_simp; try with_reducible rfl)
            try simp only [Act.put, List.setIfInBounds_toArray, List.set_cons_zero, List.set_cons_succ]
            refine takeL (i := 12) (v := ?_) rfl (by kernel_rfl) (by kernel_rfl) (by kernel_rfl) (fun _ _ _ h => h) (Or.inl ⟨by rfl, ?_⟩) hHeld ?_
            rotate_left
            focus (intro wq hSw; clear hSw; go_simp; try with_reducible rfl)
            try simp only [Act.put, List.setIfInBounds_toArray, List.set_cons_zero, List.set_cons_succ]
            refine takeL (i := 13) (v := ?_) rfl (by kernel_rfl) (by kernel_rfl) (by kernel_rfl) (fun _ _ _ h => h) (Or.inl ⟨by rfl, ?_⟩) hHeld ?_
            rotate_left
            focus (intro wq hSw; clear hSw; go_simp; try with_reducible rfl)
            try simp only [Act.put, List.setIfInBounds_toArray, List.set_cons_zero, List.set_cons_succ]
            refine takeL (i := 15) (v := ?_) rfl (by kernel_rfl) (by kernel_rfl) (by kernel_rfl) (fun _ _ _ h => h) (Or.inl ⟨by rfl, ?_⟩) hHeld ?_
            rotate_left
            focus (intro wq hSw; clear hSw; go_simp; try with_reducible rfl)
            try simp only [Act.put, List.setIfInBounds_toArray, List.set_cons_zero, List.set_cons_succ]
            refine wpAnyH_ready (rs := [14]) (by kernel_rfl) (by simp) ?_
            refine consL rfl (fun K hK => ?_) AllReadyH.nil
            go_simp
            refine (HS.out.1 _).mono ?_
            rintro e w' ⟨rfl, rfl⟩
            refine hK.out _ _ (by repeat (first | exact hHeld | exact Old.refl _ | assumption | refine Old.drew ?_ | refine Old.drewN ?_ _ | refine Old.alloc ?_ _)) (fun hHeld => ?_)
            clear hK K
            try simp only [Act.put, List.setIfInBounds_toArray, List.set_cons_zero, List.set_cons_succ]
            refine wpAnyH_ready (rs := [16]) (by kernel_rfl) (by simp) ?_
            refine consL rfl (fun K hK => ?_) AllReadyH.nil
            go_simp
            refine (HS.out.2.1 _ (HX.out.1.below hOd) (HX.out.2.2.1.keep hOd.size (hOd.block _ HX.out.2.2.1.1))).mono ?_
            rintro e w5 ⟨rfl, hD5, hT5⟩
            have hT5' := hHeld.trans hT5 (fun x hx => .inl hx)
            refine hK.out _ _ hT5' (fun hHeld => ?_)
            clear hK K
            try simp only [Act.put, List.setIfInBounds_toArray, List.set_cons_zero, List.set_cons_succ]
            refine takeL (i := 17) (v := ?_) rfl (by kernel_rfl) (by kernel_rfl) (by kernel_rfl) (fun _ _ _ h => h) (Or.inl ⟨by rfl, ?_⟩) hHeld ?_
            rotate_left
            focus (intro wq hSw; clear hSw; go_simp; try with_reducible rfl)
            try simp only [Act.put, List.setIfInBounds_toArray, List.set_cons_zero, List.set_cons_succ]
            refine wpAnyH_done (by kernel_rfl) ?_ _
            refine NoPanic.normal ?_
            try simp only [Exit.then]
            have H5 := Lib.hid (And.intro hD5 (And.intro hT5 hHeld))
            clear hD5 hT5 hHeld hOd
            cases wok with
            | false =>
              have hst := row_stop HR2.out.1 HMB.out (by rw [HS.out.2.2.2]; exact HS.out.2.2.1)
              have hq := HQ.out
              rw [hst, if_pos rfl] at hq
              subst hq
              go_wp2_with fail
              go_ret
              exact ⟨rfl, H5.out.1, (Turn.of_below [d, L] HW.out.2.2.2.2).trans (HX.out.2.2.2.2.2.trans H5.out.2.2 (fun x hx => .inl hx)) (fun x hx => .inl hx)⟩
            | true =>
              go_wp2_with fail
              go_roundw
              case measure => simp [intOf]; omega
              exact ⟨i + 1, sw, by omega, by simp, by rw [row_step HR2.out.1 HMB.out, HS.out.2.2.2]; exact HS.out.2.2.1, H5.out.1, HX.out.2.2.2.2.2.trans H5.out.2.2 (fun x hx => .inl hx)⟩
          · rw [hr0] at hlk
            simp only [Option.getD_some, Option.isSome_some] at hlk
            rw [hl0, Option.getD_some] at hmb
            obtain ⟨kp, hkp⟩ := List.getElem?_of_mem hpm
            have hrp := (HV.out.2.2.2.1.at_ kp p hkp).2.2
            have hneA := HV.out.2.2.2.2.1 p hpm
            have hl256 := (HV.out.2.2.2.2.2.1 p hpm).2.2
            obtain ⟨blk, A2, n2, c2, l2⟩ := p
            simp only at hlk hmb hrp hneA hl256
            obtain rfl : n2 = 256 := by have := hrp.1; omega
            obtain ⟨g2, o2, rfl, hat2⟩ := hrp.addr (by omega)
            have hr1 := (hrp.below HW.out.2.2.2.2).turn HR2.out.2.2.1 (fun ad had => hneA ad had)
            obtain ⟨g3, o3, he3, hat3⟩ := hr1.addr (by omega)
            injection he3 with he3
            injection he3 with hg3 ho3
            subst hg3 ho3
            have HX := Lib.hid (And.intro HR2.out.2.1 (And.intro (VolB.cells HR2.out.2.2.2.1) (And.intro hat3 (And.intro hl256 (And.intro (show 256 ≤ c2 ∧ c2 ≤ maxLen from ⟨hr1.2.1, hr1.2.2.1⟩) HR2.out.2.2.1)))))
            have HMB := Lib.hid hmb
            clear hr0 hl0 hmb hkp hrp hneA hl256 hat2 hr1 hat3 hpm
            obtain ⟨wx, hwx⟩ : ∃ wx, wx = wr := ⟨_, rfl⟩
            subst hwx
            go_wp2_with fail
            clear hlk
            obtain ⟨qb, hqb⟩ : ∃ qb, i0 + i = qb := ⟨_, rfl⟩
            have hsd : ∀ W, Calls Tryd.prog 32 #[.int .i64 (B : Int), .int .i64 ((c : Int) + 1), .int .i64 (i : Int)] W fun e w' => e = .returned (.int .i64 (qb : Int)) ∧ W = w' := fun W => by
              have := side_any B (c + 1) i (by omega) (by omega) (by omega) W
              rw [HM.out.2.2.2.2.2.2.1, hqb] at this
              exact this
            have hqn : qb < sr.n := by have := HM.out.2.2.2.2.2.2.2.2.1; have := HM.out.2.2.2.2.2.2.1; have := HR2.out.2.2.2.2.1.n; omega
            obtain ⟨wok, sw, hwr⟩ : ∃ wok sw, sr.wrote qb l2 = (wok, sw) := ⟨_, _, rfl⟩
            have hwo : ∀ W, DkAt W d L sr → At W g2 o2 l2 → Calls Tryd.prog 30 #[.pointer (some ⟨d, 0, none⟩), .int .i64 (qb : Int), .slice (some ⟨g2, o2, none⟩) 256 c2] W fun e w' => e = .returned (.bool wok) ∧ DkAt w' d L sw ∧ Turn [d, L] W w' := fun W hDW hAW => by
              have := wrote_any d L sr W (k + i) hDW HR2.out.2.2.2.2.2.1 (by omega) qb hqn g2 o2 c2 l2 hAW HX.out.2.2.2.1 HX.out.2.2.2.2.1
              rw [hwr] at this
              exact this
            have HS := Lib.hid (And.intro hsd (And.intro hwo (And.intro hwr hqb)))
            have g1 : IntKind.i64.wrap ((c : Int) + 1) = (c : Int) + 1 := IntWalk.i64_in _ (by omega)
            have HV0 := Lib.hid HX.out.2.1.1
            have HV1 := Lib.hid HX.out.2.1.2.1
            have HV2 := Lib.hid HX.out.2.1.2.2.1
            clear hsd hwo hwr hqb hqn
            refine region_turn [d, L] (by kernel_rfl) (fun wd hOd hHeld hSz => ?_)
            have HSz := Lib.hid hSz
            clear hSz
            refine takeL (i := 0) (v := ?_) rfl (by kernel_rfl) (by kernel_rfl) (by kernel_rfl) (fun _ _ _ h => h) (Or.inl ⟨by rfl, ?_⟩) hHeld ?_
            rotate_left
            focus (intro wq hSw; clear hSw; go_simp; try with_reducible rfl)
            try simp only [Act.put, List.setIfInBounds_toArray, List.set_cons_zero, List.set_cons_succ]
            refine takeL (i := 1) (v := ?_) rfl (by kernel_rfl) (by kernel_rfl) (by kernel_rfl) (fun _ _ _ h => h) (Or.inl ⟨by rfl, ?_⟩) hHeld ?_
            rotate_left
            focus (intro wq hSw; clear hSw; go_simp; try with_reducible rfl)
            try simp only [Act.put, List.setIfInBounds_toArray, List.set_cons_zero, List.set_cons_succ]
            refine takeL (i := 2) (v := ?_) rfl (by kernel_rfl) (by kernel_rfl) (by kernel_rfl) (fun _ _ _ h => h) (Or.inl ⟨by rfl, ?_⟩) hHeld ?_
            rotate_left
            focus (intro wq hSw; clear hSw; go_simp; try with_reducible rfl)
            try simp only [Act.put, List.setIfInBounds_toArray, List.set_cons_zero, List.set_cons_succ]
            refine takeL (i := 3) (v := ?_) rfl (by kernel_rfl) (by kernel_rfl) (by kernel_rfl) (fun _ _ _ h => h) (Or.inl ⟨by rfl, ?_⟩) hHeld ?_
            rotate_left
            focus (intro wq hSw; have zz := cell_turn HV0.out hSw HV.out.2.2.2.2.2.2.2; clear hSw; go_simp; try with_reducible rfl)
            try simp only [Act.put, List.setIfInBounds_toArray, List.set_cons_zero, List.set_cons_succ]
            refine takeL (i := 4) (v := ?_) rfl (by kernel_rfl) (by kernel_rfl) (by kernel_rfl) (fun _ _ _ h => h) (Or.inl ⟨by rfl, ?_⟩) hHeld ?_
            rotate_left
            focus (intro wq hSw; clear hSw; go_simp; try with_reducible rfl)
            try simp only [Act.put, List.setIfInBounds_toArray, List.set_cons_zero, List.set_cons_succ]
            refine takeL (i := 5) (v := ?_) rfl (by kernel_rfl) (by kernel_rfl) (by kernel_rfl) (fun _ _ _ h => h) (Or.inl ⟨by rfl, ?_⟩) hHeld ?_
            rotate_left
            focus (intro wq hSw; clear hSw; go_simp; try with_reducible rfl)
            try simp only [Act.put, List.setIfInBounds_toArray, List.set_cons_zero, List.set_cons_succ]
            refine takeL (i := 6) (v := ?_) rfl (by kernel_rfl) (by kernel_rfl) (by kernel_rfl) (fun _ _ _ h => h) (Or.inl ⟨by rfl, ?_⟩) hHeld ?_
            rotate_left
            focus (intro wq hSw; clear hSw; go_simp; try with_reducible rfl)
            try simp only [Act.put, List.setIfInBounds_toArray, List.set_cons_zero, List.set_cons_succ]
            refine takeL (i := 7) (v := ?_) rfl (by kernel_rfl) (by kernel_rfl) (by kernel_rfl) (fun _ _ _ h => h) (Or.inl ⟨by rfl, ?_⟩) hHeld ?_
            rotate_left
            focus (intro wq hSw; have zz := cell_turn HV1.out hSw HV.out.2.2.2.2.2.2.2; clear hSw; go_simp; try with_reducible rfl)
            try simp only [Act.put, List.setIfInBounds_toArray, List.set_cons_zero, List.set_cons_succ]
            refine takeL (i := 8) (v := ?_) rfl (by kernel_rfl) (by kernel_rfl) (by kernel_rfl) (fun _ _ _ h => h) (Or.inl ⟨by rfl, ?_⟩) hHeld ?_
            rotate_left
            focus (intro wq hSw; clear hSw; go_simp; try with_reducible rfl)
            try simp only [Act.put, List.setIfInBounds_toArray, List.set_cons_zero, List.set_cons_succ]
            refine takeL (i := 9) (v := ?_) rfl (by kernel_rfl) (by kernel_rfl) (by kernel_rfl) (fun _ _ _ h => h) (Or.inl ⟨by rfl, ?_⟩) hHeld ?_
            rotate_left
            focus (intro wq hSw; clear hSw; go_simp; try with_reducible rfl)
            try simp only [Act.put, List.setIfInBounds_toArray, List.set_cons_zero, List.set_cons_succ]
            refine takeL (i := 10) (v := ?_) rfl (by kernel_rfl) (by kernel_rfl) (by kernel_rfl) (fun _ _ _ h => h) (Or.inl ⟨by rfl, ?_⟩) hHeld ?_
            rotate_left
            focus (intro wq hSw; clear hSw; go_simp; try with_reducible rfl)
            try simp only [Act.put, List.setIfInBounds_toArray, List.set_cons_zero, List.set_cons_succ]
            refine takeL (i := 11) (v := ?_) rfl (by kernel_rfl) (by kernel_rfl) (by kernel_rfl) (fun _ _ _ h => h) (Or.inl ⟨by rfl, ?_⟩) hHeld ?_
            rotate_left
            focus (intro wq hSw; have zz := cell_turn HV2.out hSw HV.out.2.2.2.2.2.2.2; clear hSw; go_simp; try with_reducible rfl)
            try simp only [Act.put, List.setIfInBounds_toArray, List.set_cons_zero, List.set_cons_succ]
            refine takeL (i := 12) (v := ?_) rfl (by kernel_rfl) (by kernel_rfl) (by kernel_rfl) (fun _ _ _ h => h) (Or.inl ⟨by rfl, ?_⟩) hHeld ?_
            rotate_left
            focus (intro wq hSw; clear hSw; go_simp; try with_reducible rfl)
            try simp only [Act.put, List.setIfInBounds_toArray, List.set_cons_zero, List.set_cons_succ]
            refine takeL (i := 13) (v := ?_) rfl (by kernel_rfl) (by kernel_rfl) (by kernel_rfl) (fun _ _ _ h => h) (Or.inl ⟨by rfl, ?_⟩) hHeld ?_
            rotate_left
            focus (intro wq hSw; clear hSw; go_simp; try with_reducible rfl)
            try simp only [Act.put, List.setIfInBounds_toArray, List.set_cons_zero, List.set_cons_succ]
            refine takeL (i := 15) (v := ?_) rfl (by kernel_rfl) (by kernel_rfl) (by kernel_rfl) (fun _ _ _ h => h) (Or.inl ⟨by rfl, ?_⟩) hHeld ?_
            rotate_left
            focus (intro wq hSw; clear hSw; go_simp; try with_reducible rfl)
            try simp only [Act.put, List.setIfInBounds_toArray, List.set_cons_zero, List.set_cons_succ]
            refine wpAnyH_ready (rs := [14]) (by kernel_rfl) (by simp) ?_
            refine consL rfl (fun K hK => ?_) AllReadyH.nil
            go_simp
            refine (HS.out.1 _).mono ?_
            rintro e w' ⟨rfl, rfl⟩
            refine hK.out _ _ (by repeat (first | exact hHeld | exact Old.refl _ | assumption | refine Old.drew ?_ | refine Old.drewN ?_ _ | refine Old.alloc ?_ _)) (fun hHeld => ?_)
            clear hK K
            try simp only [Act.put, List.setIfInBounds_toArray, List.set_cons_zero, List.set_cons_succ]
            refine wpAnyH_ready (rs := [16]) (by kernel_rfl) (by simp) ?_
            refine consL rfl (fun K hK => ?_) AllReadyH.nil
            go_simp
            refine (HS.out.2.1 _ (HX.out.1.below hOd) (HX.out.2.2.1.keep hOd.size (hOd.block _ HX.out.2.2.1.1))).mono ?_
            rintro e w5 ⟨rfl, hD5, hT5⟩
            have hT5' := hHeld.trans hT5 (fun x hx => .inl hx)
            refine hK.out _ _ hT5' (fun hHeld => ?_)
            clear hK K
            try simp only [Act.put, List.setIfInBounds_toArray, List.set_cons_zero, List.set_cons_succ]
            refine takeL (i := 17) (v := ?_) rfl (by kernel_rfl) (by kernel_rfl) (by kernel_rfl) (fun _ _ _ h => h) (Or.inl ⟨by rfl, ?_⟩) hHeld ?_
            rotate_left
            focus (intro wq hSw; clear hSw; go_simp; try with_reducible rfl)
            try simp only [Act.put, List.setIfInBounds_toArray, List.set_cons_zero, List.set_cons_succ]
            refine wpAnyH_done (by kernel_rfl) ?_ _
            refine NoPanic.normal ?_
            try simp only [Exit.then]
            have H5 := Lib.hid (And.intro hD5 (And.intro hT5 hHeld))
            clear hD5 hT5 hHeld hOd
            cases wok with
            | false =>
              have hst := row_stop HR2.out.1 HMB.out (by rw [HS.out.2.2.2]; exact HS.out.2.2.1)
              have hq := HQ.out
              rw [hst, if_pos rfl] at hq
              subst hq
              go_wp2_with fail
              go_ret
              exact ⟨rfl, H5.out.1, (Turn.of_below [d, L] HW.out.2.2.2.2).trans (HX.out.2.2.2.2.2.trans H5.out.2.2 (fun x hx => .inl hx)) (fun x hx => .inl hx)⟩
            | true =>
              go_wp2_with fail
              go_roundw
              case measure => simp [intOf]; omega
              exact ⟨i + 1, sw, by omega, by simp, by rw [row_step HR2.out.1 HMB.out, HS.out.2.2.2]; exact HS.out.2.2.1, H5.out.1, HX.out.2.2.2.2.2.trans H5.out.2.2 (fun x hx => .inl hx)⟩
        · obtain rfl : i = B := by omega
          have hlt2i : ¬ (i : Int) < i := by omega
          have hlt2d : decide ((i : Int) < (i : Int)) = false := decide_eq_false hlt2i
          have hrow := HR2.out.1
          rw [List.take_of_length_le (by rw [HM.out.2.1]; omega)] at hrow
          have hcs := VolB.cells HR2.out.2.2.2.1
          have g1 : IntKind.i64.wrap ((c : Int) + 1) = (c : Int) + 1 := IntWalk.i64_in _ (by omega)
          obtain ⟨r, hr⟩ : ∃ r, (c + 1) % 2 = r := ⟨_, rfl⟩
          have hcm : ((c : Int) + 1).tmod 2 = (r : Int) := by rw [Int.tmod_eq_emod_of_nonneg (by omega)]; omega
          have hr2 : r < 2 := by omega
          have hq := HQ.out
          rw [hrow, hr] at hq
          simp only [Bool.true_eq_false, if_false] at hq
          obtain ⟨ok1, s1, hs1⟩ : ∃ ok1 s1, sr.sy = (ok1, s1) := ⟨_, _, rfl⟩
          obtain ⟨ok2, s2, hs2⟩ : ∃ ok2 s2, s1.wr r (headB (c + 1)) = (ok2, s2) := ⟨_, _, rfl⟩
          obtain ⟨ok3, s3, hs3⟩ : ∃ ok3 s3, s2.sy = (ok3, s3) := ⟨_, _, rfl⟩
          have f0 := HR2.out.2.2.2.2.2.1
          have f1 := sy_fok f0
          have n1 := (sy_did sr).n
          rw [hs1] at f1 n1 hq
          simp only at f1 n1 hq
          have f2 := wr_fok f1 r (headB (c + 1))
          rw [hs2] at f2 hq
          simp only at f2 hq
          rw [hs3] at hq
          have hsy1 : ∀ W, DkAt W d L sr → Calls Tryd.prog 31 #[.pointer (some ⟨d, 0, none⟩)] W fun e w' => e = .returned (.bool ok1) ∧ DkAt w' d L s1 ∧ Turn [d, L] W w' := fun W hDW => by
            have := dksync_any d L sr W _ hDW f0 (by omega)
            rw [hs1] at this
            exact this
          have hsy2 : ∀ W, DkAt W d L s2 → Calls Tryd.prog 31 #[.pointer (some ⟨d, 0, none⟩)] W fun e w' => e = .returned (.bool ok3) ∧ DkAt w' d L s3 ∧ Turn [d, L] W w' := fun W hDW => by
            have := dksync_any d L s2 W _ hDW f2 (by omega)
            rw [hs3] at this
            exact this
          have hrn : r < s1.n := by have := HM.out.2.2.2.2.2.2.2.2.2.1; have := HR2.out.2.2.2.2.1.n; omega
          have hwr2 : ∀ W b off cc, DkAt W d L s1 → At W b off (headB (c + 1)) → Calls Tryd.prog 42 #[.pointer (some ⟨d, 0, none⟩), .int .i64 (r : Int), .slice (some ⟨b, off, none⟩) 256 cc] W fun e w' => e = .returned (.bool ok2) ∧ DkAt w' d L s2 ∧ Turn [d, L] W w' := fun W b off cc hDW hAW => by
            have := dkwrite_any d L s1 W _ hDW f1 (by omega) r hrn b off cc (headB (c + 1)) hAW (headB_len _)
            rw [hs2] at this
            exact this
          have hhd : ∀ W, KAt W → Calls Tryd.prog 33 #[.int .i64 ((c : Int) + 1)] W fun e w' => ∃ A n c', e = .returned (.slice A n c') ∧ Own w' W.heap.size (.slice A n c') (headB (c + 1)) ∧ Below W.heap.size W w' := fun W hKW => head_any (c + 1) (by omega) W hKW
          have HS := Lib.hid (And.intro hsy1 (And.intro hhd (And.intro hwr2 hsy2)))
          have HQ2 := Lib.hid hq
          have HV0 := Lib.hid hcs.1
          clear hq hs1 hs2 hs3 f0 f1 f2 n1 hsy1 hsy2 hrn hwr2 hhd hr
          go_wp2_with fail
          clear hcs
          cases ok1 with
          | false =>
            have hq := HQ2.out
            rw [if_pos rfl] at hq
            subst hq
            refine region_turn [d, L] (by kernel_rfl) (fun wd hOd hHeld hSz => ?_)
            have HSz := Lib.hid hSz
            clear hSz
            refine takeL (i := 0) (v := ?_) rfl (by kernel_rfl) (by kernel_rfl) (by kernel_rfl) (fun _ _ _ h => h) (Or.inl ⟨by rfl, ?_⟩) hHeld ?_
            rotate_left
            focus (intro wq hSw; clear hSw; go_simp; try with_reducible rfl)
            try simp only [Act.put, List.setIfInBounds_toArray, List.set_cons_zero, List.set_cons_succ]
            refine takeL (i := 1) (v := ?_) rfl (by kernel_rfl) (by kernel_rfl) (by kernel_rfl) (fun _ _ _ h => h) (Or.inl ⟨by rfl, ?_⟩) hHeld ?_
            rotate_left
            focus (intro wq hSw; clear hSw; go_simp; try with_reducible rfl)
            try simp only [Act.put, List.setIfInBounds_toArray, List.set_cons_zero, List.set_cons_succ]
            refine takeL (i := 2) (v := ?_) rfl (by kernel_rfl) (by kernel_rfl) (by kernel_rfl) (fun _ _ _ h => h) (Or.inl ⟨by rfl, ?_⟩) hHeld ?_
            rotate_left
            focus (intro wq hSw; clear hSw; go_simp; try with_reducible rfl)
            try simp only [Act.put, List.setIfInBounds_toArray, List.set_cons_zero, List.set_cons_succ]
            refine takeL (i := 3) (v := ?_) rfl (by kernel_rfl) (by kernel_rfl) (by kernel_rfl) (fun _ _ _ h => h) (Or.inl ⟨by rfl, ?_⟩) hHeld ?_
            rotate_left
            focus (intro wq hSw; have zz := cell_turn HV0.out hSw HV.out.2.2.2.2.2.2.2; clear hSw; go_simp; try with_reducible rfl)
            try simp only [Act.put, List.setIfInBounds_toArray, List.set_cons_zero, List.set_cons_succ]
            refine wpAnyH_ready (rs := [4]) (by kernel_rfl) (by simp) ?_
            refine consL rfl (fun K hK => ?_) AllReadyH.nil
            go_simp
            refine (HS.out.1 _ (HR2.out.2.1.below hOd)).mono ?_
            rintro e w5 ⟨rfl, hD5, hT5⟩
            have hT5' := hHeld.trans hT5 (fun x hx => .inl hx)
            clear hT5
            refine hK.out _ _ hT5' (fun hHeld => ?_)
            clear hK K
            try simp only [Act.put, List.setIfInBounds_toArray, List.set_cons_zero, List.set_cons_succ]
            refine takeL (i := 5) (v := ?_) rfl (by kernel_rfl) (by kernel_rfl) (by kernel_rfl) (fun _ _ _ h => h) (Or.inl ⟨by rfl, ?_⟩) hHeld ?_
            rotate_left
            focus (intro wq hSw; clear hSw; go_simp; try with_reducible rfl)
            try simp only [Act.put, List.setIfInBounds_toArray, List.set_cons_zero, List.set_cons_succ]
            refine takeL (i := 6) (v := undef) rfl (by kernel_rfl) (by kernel_rfl) (by kernel_rfl) (fun _ _ _ h => h) (Or.inr ⟨by rfl, rfl⟩) hHeld ?_
            try simp only [Act.put, List.setIfInBounds_toArray, List.set_cons_zero, List.set_cons_succ]
            refine takeL (i := 7) (v := undef) rfl (by kernel_rfl) (by kernel_rfl) (by kernel_rfl) (fun _ _ _ h => h) (Or.inr ⟨by rfl, rfl⟩) hHeld ?_
            try simp only [Act.put, List.setIfInBounds_toArray, List.set_cons_zero, List.set_cons_succ]
            refine takeL (i := 8) (v := undef) rfl (by kernel_rfl) (by kernel_rfl) (by kernel_rfl) (fun _ _ _ h => h) (Or.inr ⟨by rfl, rfl⟩) hHeld ?_
            try simp only [Act.put, List.setIfInBounds_toArray, List.set_cons_zero, List.set_cons_succ]
            refine takeL (i := 9) (v := undef) rfl (by kernel_rfl) (by kernel_rfl) (by kernel_rfl) (fun _ _ _ h => h) (Or.inr ⟨by rfl, rfl⟩) hHeld ?_
            try simp only [Act.put, List.setIfInBounds_toArray, List.set_cons_zero, List.set_cons_succ]
            refine takeL (i := 10) (v := undef) rfl (by kernel_rfl) (by kernel_rfl) (by kernel_rfl) (fun _ _ _ h => h) (Or.inr ⟨by rfl, rfl⟩) hHeld ?_
            try simp only [Act.put, List.setIfInBounds_toArray, List.set_cons_zero, List.set_cons_succ]
            refine takeL (i := 11) (v := undef) rfl (by kernel_rfl) (by kernel_rfl) (by kernel_rfl) (fun _ _ _ h => h) (Or.inr ⟨by rfl, rfl⟩) hHeld ?_
            try simp only [Act.put, List.setIfInBounds_toArray, List.set_cons_zero, List.set_cons_succ]
            refine takeL (i := 12) (v := undef) rfl (by kernel_rfl) (by kernel_rfl) (by kernel_rfl) (fun _ _ _ h => h) (Or.inr ⟨by rfl, rfl⟩) hHeld ?_
            try simp only [Act.put, List.setIfInBounds_toArray, List.set_cons_zero, List.set_cons_succ]
            refine takeL (i := 13) (v := undef) rfl (by kernel_rfl) (by kernel_rfl) (by kernel_rfl) (fun _ _ _ h => h) (Or.inr ⟨by rfl, rfl⟩) hHeld ?_
            try simp only [Act.put, List.setIfInBounds_toArray, List.set_cons_zero, List.set_cons_succ]
            refine takeL (i := 14) (v := undef) rfl (by kernel_rfl) (by kernel_rfl) (by kernel_rfl) (fun _ _ _ h => h) (Or.inr ⟨by rfl, rfl⟩) hHeld ?_
            try simp only [Act.put, List.setIfInBounds_toArray, List.set_cons_zero, List.set_cons_succ]
            refine takeL (i := 15) (v := ?_) rfl (by kernel_rfl) (by kernel_rfl) (by kernel_rfl) (fun _ _ _ h => h) (Or.inl ⟨by rfl, ?_⟩) hHeld ?_
            rotate_left
            focus (intro wq hSw; clear hSw; go_simp; try with_reducible rfl)
            try simp only [Act.put, List.setIfInBounds_toArray, List.set_cons_zero, List.set_cons_succ]
            refine takeL (i := 16) (v := ?_) rfl (by kernel_rfl) (by kernel_rfl) (by kernel_rfl) (fun _ _ _ h => h) (Or.inl ⟨by rfl, ?_⟩) hHeld ?_
            rotate_left
            focus (intro wq hSw; clear hSw; go_simp; try with_reducible rfl)
            try simp only [Act.put, List.setIfInBounds_toArray, List.set_cons_zero, List.set_cons_succ]
            refine takeL (i := 17) (v := undef) rfl (by kernel_rfl) (by kernel_rfl) (by kernel_rfl) (fun _ _ _ h => h) (Or.inr ⟨by rfl, rfl⟩) hHeld ?_
            try simp only [Act.put, List.setIfInBounds_toArray, List.set_cons_zero, List.set_cons_succ]
            refine takeL (i := 18) (v := undef) rfl (by kernel_rfl) (by kernel_rfl) (by kernel_rfl) (fun _ _ _ h => h) (Or.inr ⟨by rfl, rfl⟩) hHeld ?_
            try simp only [Act.put, List.setIfInBounds_toArray, List.set_cons_zero, List.set_cons_succ]
            refine takeL (i := 19) (v := undef) rfl (by kernel_rfl) (by kernel_rfl) (by kernel_rfl) (fun _ _ _ h => h) (Or.inr ⟨by rfl, rfl⟩) hHeld ?_
            try simp only [Act.put, List.setIfInBounds_toArray, List.set_cons_zero, List.set_cons_succ]
            refine takeL (i := 20) (v := undef) rfl (by kernel_rfl) (by kernel_rfl) (by kernel_rfl) (fun _ _ _ h => h) (Or.inr ⟨by rfl, rfl⟩) hHeld ?_
            try simp only [Act.put, List.setIfInBounds_toArray, List.set_cons_zero, List.set_cons_succ]
            refine takeL (i := 21) (v := undef) rfl (by kernel_rfl) (by kernel_rfl) (by kernel_rfl) (fun _ _ _ h => h) (Or.inr ⟨by rfl, rfl⟩) hHeld ?_
            try simp only [Act.put, List.setIfInBounds_toArray, List.set_cons_zero, List.set_cons_succ]
            refine takeL (i := 22) (v := ?_) rfl (by kernel_rfl) (by kernel_rfl) (by kernel_rfl) (fun _ _ _ h => h) (Or.inl ⟨by rfl, ?_⟩) hHeld ?_
            rotate_left
            focus (intro wq hSw; clear hSw; go_simp; try with_reducible rfl)
            try simp only [Act.put, List.setIfInBounds_toArray, List.set_cons_zero, List.set_cons_succ]
            refine takeL (i := 23) (v := ?_) rfl (by kernel_rfl) (by kernel_rfl) (by kernel_rfl) (fun _ _ _ h => h) (Or.inl ⟨by rfl, ?_⟩) hHeld ?_
            rotate_left
            focus (intro wq hSw; clear hSw; go_simp; try with_reducible rfl)
            try simp only [Act.put, List.setIfInBounds_toArray, List.set_cons_zero, List.set_cons_succ]
            refine wpAnyH_done (by kernel_rfl) ?_ _
            refine NoPanic.normal ?_
            try simp only [Exit.then]
            go_wp2_with fail
            go_ret
            exact ⟨rfl, hD5, (Turn.of_below [d, L] HW.out.2.2.2.2).trans (HR2.out.2.2.1.trans hHeld (fun x hx => .inl hx)) (fun x hx => .inl hx)⟩
          | true =>
            have hq := HQ2.out
            simp only [Bool.true_eq_false, if_false] at hq
            cases ok2 with
            | false =>
              rw [if_pos rfl] at hq
              subst hq
              refine region_turn [d, L] (by kernel_rfl) (fun wd hOd hHeld hSz => ?_)
              have HSz := Lib.hid hSz
              clear hSz
              refine takeL (i := 0) (v := ?_) rfl (by kernel_rfl) (by kernel_rfl) (by kernel_rfl) (fun _ _ _ h => h) (Or.inl ⟨by rfl, ?_⟩) hHeld ?_
              rotate_left
              focus (intro wq hSw; clear hSw; go_simp; try with_reducible rfl)
              try simp only [Act.put, List.setIfInBounds_toArray, List.set_cons_zero, List.set_cons_succ]
              refine takeL (i := 1) (v := ?_) rfl (by kernel_rfl) (by kernel_rfl) (by kernel_rfl) (fun _ _ _ h => h) (Or.inl ⟨by rfl, ?_⟩) hHeld ?_
              rotate_left
              focus (intro wq hSw; clear hSw; go_simp; try with_reducible rfl)
              try simp only [Act.put, List.setIfInBounds_toArray, List.set_cons_zero, List.set_cons_succ]
              refine takeL (i := 2) (v := ?_) rfl (by kernel_rfl) (by kernel_rfl) (by kernel_rfl) (fun _ _ _ h => h) (Or.inl ⟨by rfl, ?_⟩) hHeld ?_
              rotate_left
              focus (intro wq hSw; clear hSw; go_simp; try with_reducible rfl)
              try simp only [Act.put, List.setIfInBounds_toArray, List.set_cons_zero, List.set_cons_succ]
              refine takeL (i := 3) (v := ?_) rfl (by kernel_rfl) (by kernel_rfl) (by kernel_rfl) (fun _ _ _ h => h) (Or.inl ⟨by rfl, ?_⟩) hHeld ?_
              rotate_left
              focus (intro wq hSw; have zz := cell_turn HV0.out hSw HV.out.2.2.2.2.2.2.2; clear hSw; go_simp; try with_reducible rfl)
              try simp only [Act.put, List.setIfInBounds_toArray, List.set_cons_zero, List.set_cons_succ]
              refine wpAnyH_ready (rs := [4]) (by kernel_rfl) (by simp) ?_
              refine consL rfl (fun K hK => ?_) AllReadyH.nil
              go_simp
              refine (HS.out.1 _ (HR2.out.2.1.below hOd)).mono ?_
              rintro e w5 ⟨rfl, hD5, hT5⟩
              have hT5' := hHeld.trans hT5 (fun x hx => .inl hx)
              clear hT5
              refine hK.out _ _ hT5' (fun hHeld => ?_)
              clear hK K
              try simp only [Act.put, List.setIfInBounds_toArray, List.set_cons_zero, List.set_cons_succ]
              refine takeL (i := 5) (v := ?_) rfl (by kernel_rfl) (by kernel_rfl) (by kernel_rfl) (fun _ _ _ h => h) (Or.inl ⟨by rfl, ?_⟩) hHeld ?_
              rotate_left
              focus (intro wq hSw; clear hSw; go_simp; try with_reducible rfl)
              try simp only [Act.put, List.setIfInBounds_toArray, List.set_cons_zero, List.set_cons_succ]
              refine takeL (i := 6) (v := ?_) rfl (by kernel_rfl) (by kernel_rfl) (by kernel_rfl) (fun _ _ _ h => h) (Or.inl ⟨by rfl, ?_⟩) hHeld ?_
              rotate_left
              focus (intro wq hSw; clear hSw; go_simp; try with_reducible rfl)
              try simp only [Act.put, List.setIfInBounds_toArray, List.set_cons_zero, List.set_cons_succ]
              refine takeL (i := 7) (v := ?_) rfl (by kernel_rfl) (by kernel_rfl) (by kernel_rfl) (fun _ _ _ h => h) (Or.inl ⟨by rfl, ?_⟩) hHeld ?_
              rotate_left
              focus (intro wq hSw; clear hSw; go_simp; try with_reducible rfl)
              try simp only [Act.put, List.setIfInBounds_toArray, List.set_cons_zero, List.set_cons_succ]
              refine takeL (i := 8) (v := ?_) rfl (by kernel_rfl) (by kernel_rfl) (by kernel_rfl) (fun _ _ _ h => h) (Or.inl ⟨by rfl, ?_⟩) hHeld ?_
              rotate_left
              focus (intro wq hSw; clear hSw; go_simp; try with_reducible rfl)
              try simp only [Act.put, List.setIfInBounds_toArray, List.set_cons_zero, List.set_cons_succ]
              refine takeL (i := 9) (v := ?_) rfl (by kernel_rfl) (by kernel_rfl) (by kernel_rfl) (fun _ _ _ h => h) (Or.inl ⟨by rfl, ?_⟩) hHeld ?_
              rotate_left
              focus (intro wq hSw; have zz := cell_turn HV0.out hSw HV.out.2.2.2.2.2.2.2; clear hSw; go_simp; try with_reducible rfl)
              try simp only [Act.put, List.setIfInBounds_toArray, List.set_cons_zero, List.set_cons_succ]
              refine takeL (i := 10) (v := ?_) rfl (by kernel_rfl) (by kernel_rfl) (by kernel_rfl) (fun _ _ _ h => h) (Or.inl ⟨by rfl, ?_⟩) hHeld ?_
              rotate_left
              focus (intro wq hSw; clear hSw; go_simp; try with_reducible rfl)
              try simp only [Act.put, List.setIfInBounds_toArray, List.set_cons_zero, List.set_cons_succ]
              refine takeL (i := 11) (v := ?_) rfl (by kernel_rfl) (by kernel_rfl) (by kernel_rfl) (fun _ _ _ h => h) (Or.inl ⟨by rfl, ?_⟩) hHeld ?_
              rotate_left
              focus (intro wq hSw; clear hSw; go_simp; try with_reducible rfl)
              try simp only [Act.put, List.setIfInBounds_toArray, List.set_cons_zero, List.set_cons_succ]
              refine takeL (i := 12) (v := ?_) rfl (by kernel_rfl) (by kernel_rfl) (by kernel_rfl) (fun _ _ _ h => h) (Or.inl ⟨by rfl, ?_⟩) hHeld ?_
              rotate_left
              focus (intro wq hSw; clear hSw; go_simp; try with_reducible rfl)
              try simp only [Act.put, List.setIfInBounds_toArray, List.set_cons_zero, List.set_cons_succ]
              refine wpAnyH_ready (rs := [13]) (by kernel_rfl) (by simp) ?_
              refine consL rfl (fun K hK => ?_) AllReadyH.nil
              go_simp
              have hK5 : KAt w5 := (KAt.beside HW.out.2.2.2.1 HW.out.2.2.1 HR2.out.2.2.1).beside HR2.out.2.1 hHeld
              refine (HS.out.2.1 w5 hK5).mono ?_
              rintro e w6 ⟨A6, n6, c6, rfl, hO6, hb6⟩
              obtain rfl : n6 = 256 := by have := hO6.len; rw [headB_len] at this; exact this
              obtain ⟨b6, off6, rfl, hat6⟩ := hO6.rd.addr (by omega)
              have hT6' := hHeld.trans (Turn.of_below [d, L] hb6) (fun x hx => .inl hx)
              refine hK.out _ _ hT6' (fun hHeld => ?_)
              clear hK K
              try simp only [Act.put, List.setIfInBounds_toArray, List.set_cons_zero, List.set_cons_succ]
              refine wpAnyH_ready (rs := [14]) (by kernel_rfl) (by simp) ?_
              refine consL rfl (fun K hK => ?_) AllReadyH.nil
              go_simp
              refine (HS.out.2.2.1 _ b6 off6 c6 (hD5.below hb6) hat6).mono ?_
              rintro e w7 ⟨rfl, hD7, hT7⟩
              have hT7' := hHeld.trans hT7 (fun x hx => .inl hx)
              clear hT7
              refine hK.out _ _ hT7' (fun hHeld => ?_)
              clear hK K
              try simp only [Act.put, List.setIfInBounds_toArray, List.set_cons_zero, List.set_cons_succ]
              refine takeL (i := 15) (v := ?_) rfl (by kernel_rfl) (by kernel_rfl) (by kernel_rfl) (fun _ _ _ h => h) (Or.inl ⟨by rfl, ?_⟩) hHeld ?_
              rotate_left
              focus (intro wq hSw; clear hSw; go_simp; try with_reducible rfl)
              try simp only [Act.put, List.setIfInBounds_toArray, List.set_cons_zero, List.set_cons_succ]
              refine takeL (i := 16) (v := ?_) rfl (by kernel_rfl) (by kernel_rfl) (by kernel_rfl) (fun _ _ _ h => h) (Or.inl ⟨by rfl, ?_⟩) hHeld ?_
              rotate_left
              focus (intro wq hSw; clear hSw; go_simp; try with_reducible rfl)
              try simp only [Act.put, List.setIfInBounds_toArray, List.set_cons_zero, List.set_cons_succ]
              refine takeL (i := 17) (v := undef) rfl (by kernel_rfl) (by kernel_rfl) (by kernel_rfl) (fun _ _ _ h => h) (Or.inr ⟨by rfl, rfl⟩) hHeld ?_
              try simp only [Act.put, List.setIfInBounds_toArray, List.set_cons_zero, List.set_cons_succ]
              refine takeL (i := 18) (v := undef) rfl (by kernel_rfl) (by kernel_rfl) (by kernel_rfl) (fun _ _ _ h => h) (Or.inr ⟨by rfl, rfl⟩) hHeld ?_
              try simp only [Act.put, List.setIfInBounds_toArray, List.set_cons_zero, List.set_cons_succ]
              refine takeL (i := 19) (v := undef) rfl (by kernel_rfl) (by kernel_rfl) (by kernel_rfl) (fun _ _ _ h => h) (Or.inr ⟨by rfl, rfl⟩) hHeld ?_
              try simp only [Act.put, List.setIfInBounds_toArray, List.set_cons_zero, List.set_cons_succ]
              refine takeL (i := 20) (v := undef) rfl (by kernel_rfl) (by kernel_rfl) (by kernel_rfl) (fun _ _ _ h => h) (Or.inr ⟨by rfl, rfl⟩) hHeld ?_
              try simp only [Act.put, List.setIfInBounds_toArray, List.set_cons_zero, List.set_cons_succ]
              refine takeL (i := 21) (v := undef) rfl (by kernel_rfl) (by kernel_rfl) (by kernel_rfl) (fun _ _ _ h => h) (Or.inr ⟨by rfl, rfl⟩) hHeld ?_
              try simp only [Act.put, List.setIfInBounds_toArray, List.set_cons_zero, List.set_cons_succ]
              refine takeL (i := 22) (v := ?_) rfl (by kernel_rfl) (by kernel_rfl) (by kernel_rfl) (fun _ _ _ h => h) (Or.inl ⟨by rfl, ?_⟩) hHeld ?_
              rotate_left
              focus (intro wq hSw; clear hSw; go_simp; try with_reducible rfl)
              try simp only [Act.put, List.setIfInBounds_toArray, List.set_cons_zero, List.set_cons_succ]
              refine takeL (i := 23) (v := ?_) rfl (by kernel_rfl) (by kernel_rfl) (by kernel_rfl) (fun _ _ _ h => h) (Or.inl ⟨by rfl, ?_⟩) hHeld ?_
              rotate_left
              focus (intro wq hSw; clear hSw; go_simp; try with_reducible rfl)
              try simp only [Act.put, List.setIfInBounds_toArray, List.set_cons_zero, List.set_cons_succ]
              refine wpAnyH_done (by kernel_rfl) ?_ _
              refine NoPanic.normal ?_
              try simp only [Exit.then]
              go_wp2_with fail
              go_ret
              exact ⟨rfl, hD7, (Turn.of_below [d, L] HW.out.2.2.2.2).trans (HR2.out.2.2.1.trans hHeld (fun x hx => .inl hx)) (fun x hx => .inl hx)⟩
            | true =>
              simp only [Bool.true_eq_false, if_false] at hq
              subst hq
              refine region_turn [d, L] (by kernel_rfl) (fun wd hOd hHeld hSz => ?_)
              have HSz := Lib.hid hSz
              clear hSz
              refine takeL (i := 0) (v := ?_) rfl (by kernel_rfl) (by kernel_rfl) (by kernel_rfl) (fun _ _ _ h => h) (Or.inl ⟨by rfl, ?_⟩) hHeld ?_
              rotate_left
              focus (intro wq hSw; clear hSw; go_simp; try with_reducible rfl)
              try simp only [Act.put, List.setIfInBounds_toArray, List.set_cons_zero, List.set_cons_succ]
              refine takeL (i := 1) (v := ?_) rfl (by kernel_rfl) (by kernel_rfl) (by kernel_rfl) (fun _ _ _ h => h) (Or.inl ⟨by rfl, ?_⟩) hHeld ?_
              rotate_left
              focus (intro wq hSw; clear hSw; go_simp; try with_reducible rfl)
              try simp only [Act.put, List.setIfInBounds_toArray, List.set_cons_zero, List.set_cons_succ]
              refine takeL (i := 2) (v := ?_) rfl (by kernel_rfl) (by kernel_rfl) (by kernel_rfl) (fun _ _ _ h => h) (Or.inl ⟨by rfl, ?_⟩) hHeld ?_
              rotate_left
              focus (intro wq hSw; clear hSw; go_simp; try with_reducible rfl)
              try simp only [Act.put, List.setIfInBounds_toArray, List.set_cons_zero, List.set_cons_succ]
              refine takeL (i := 3) (v := ?_) rfl (by kernel_rfl) (by kernel_rfl) (by kernel_rfl) (fun _ _ _ h => h) (Or.inl ⟨by rfl, ?_⟩) hHeld ?_
              rotate_left
              focus (intro wq hSw; have zz := cell_turn HV0.out hSw HV.out.2.2.2.2.2.2.2; clear hSw; go_simp; try with_reducible rfl)
              try simp only [Act.put, List.setIfInBounds_toArray, List.set_cons_zero, List.set_cons_succ]
              refine wpAnyH_ready (rs := [4]) (by kernel_rfl) (by simp) ?_
              refine consL rfl (fun K hK => ?_) AllReadyH.nil
              go_simp
              refine (HS.out.1 _ (HR2.out.2.1.below hOd)).mono ?_
              rintro e w5 ⟨rfl, hD5, hT5⟩
              have hT5' := hHeld.trans hT5 (fun x hx => .inl hx)
              clear hT5
              refine hK.out _ _ hT5' (fun hHeld => ?_)
              clear hK K
              try simp only [Act.put, List.setIfInBounds_toArray, List.set_cons_zero, List.set_cons_succ]
              refine takeL (i := 5) (v := ?_) rfl (by kernel_rfl) (by kernel_rfl) (by kernel_rfl) (fun _ _ _ h => h) (Or.inl ⟨by rfl, ?_⟩) hHeld ?_
              rotate_left
              focus (intro wq hSw; clear hSw; go_simp; try with_reducible rfl)
              try simp only [Act.put, List.setIfInBounds_toArray, List.set_cons_zero, List.set_cons_succ]
              refine takeL (i := 6) (v := ?_) rfl (by kernel_rfl) (by kernel_rfl) (by kernel_rfl) (fun _ _ _ h => h) (Or.inl ⟨by rfl, ?_⟩) hHeld ?_
              rotate_left
              focus (intro wq hSw; clear hSw; go_simp; try with_reducible rfl)
              try simp only [Act.put, List.setIfInBounds_toArray, List.set_cons_zero, List.set_cons_succ]
              refine takeL (i := 7) (v := ?_) rfl (by kernel_rfl) (by kernel_rfl) (by kernel_rfl) (fun _ _ _ h => h) (Or.inl ⟨by rfl, ?_⟩) hHeld ?_
              rotate_left
              focus (intro wq hSw; clear hSw; go_simp; try with_reducible rfl)
              try simp only [Act.put, List.setIfInBounds_toArray, List.set_cons_zero, List.set_cons_succ]
              refine takeL (i := 8) (v := ?_) rfl (by kernel_rfl) (by kernel_rfl) (by kernel_rfl) (fun _ _ _ h => h) (Or.inl ⟨by rfl, ?_⟩) hHeld ?_
              rotate_left
              focus (intro wq hSw; clear hSw; go_simp; try with_reducible rfl)
              try simp only [Act.put, List.setIfInBounds_toArray, List.set_cons_zero, List.set_cons_succ]
              refine takeL (i := 9) (v := ?_) rfl (by kernel_rfl) (by kernel_rfl) (by kernel_rfl) (fun _ _ _ h => h) (Or.inl ⟨by rfl, ?_⟩) hHeld ?_
              rotate_left
              focus (intro wq hSw; have zz := cell_turn HV0.out hSw HV.out.2.2.2.2.2.2.2; clear hSw; go_simp; try with_reducible rfl)
              try simp only [Act.put, List.setIfInBounds_toArray, List.set_cons_zero, List.set_cons_succ]
              refine takeL (i := 10) (v := ?_) rfl (by kernel_rfl) (by kernel_rfl) (by kernel_rfl) (fun _ _ _ h => h) (Or.inl ⟨by rfl, ?_⟩) hHeld ?_
              rotate_left
              focus (intro wq hSw; clear hSw; go_simp; try with_reducible rfl)
              try simp only [Act.put, List.setIfInBounds_toArray, List.set_cons_zero, List.set_cons_succ]
              refine takeL (i := 11) (v := ?_) rfl (by kernel_rfl) (by kernel_rfl) (by kernel_rfl) (fun _ _ _ h => h) (Or.inl ⟨by rfl, ?_⟩) hHeld ?_
              rotate_left
              focus (intro wq hSw; clear hSw; go_simp; try with_reducible rfl)
              try simp only [Act.put, List.setIfInBounds_toArray, List.set_cons_zero, List.set_cons_succ]
              refine takeL (i := 12) (v := ?_) rfl (by kernel_rfl) (by kernel_rfl) (by kernel_rfl) (fun _ _ _ h => h) (Or.inl ⟨by rfl, ?_⟩) hHeld ?_
              rotate_left
              focus (intro wq hSw; clear hSw; go_simp; try with_reducible rfl)
              try simp only [Act.put, List.setIfInBounds_toArray, List.set_cons_zero, List.set_cons_succ]
              refine wpAnyH_ready (rs := [13]) (by kernel_rfl) (by simp) ?_
              refine consL rfl (fun K hK => ?_) AllReadyH.nil
              go_simp
              have hK5 : KAt w5 := (KAt.beside HW.out.2.2.2.1 HW.out.2.2.1 HR2.out.2.2.1).beside HR2.out.2.1 hHeld
              refine (HS.out.2.1 w5 hK5).mono ?_
              rintro e w6 ⟨A6, n6, c6, rfl, hO6, hb6⟩
              obtain rfl : n6 = 256 := by have := hO6.len; rw [headB_len] at this; exact this
              obtain ⟨b6, off6, rfl, hat6⟩ := hO6.rd.addr (by omega)
              have hT6' := hHeld.trans (Turn.of_below [d, L] hb6) (fun x hx => .inl hx)
              refine hK.out _ _ hT6' (fun hHeld => ?_)
              clear hK K
              try simp only [Act.put, List.setIfInBounds_toArray, List.set_cons_zero, List.set_cons_succ]
              refine wpAnyH_ready (rs := [14]) (by kernel_rfl) (by simp) ?_
              refine consL rfl (fun K hK => ?_) AllReadyH.nil
              go_simp
              refine (HS.out.2.2.1 _ b6 off6 c6 (hD5.below hb6) hat6).mono ?_
              rintro e w7 ⟨rfl, hD7, hT7⟩
              have hT7' := hHeld.trans hT7 (fun x hx => .inl hx)
              clear hT7
              refine hK.out _ _ hT7' (fun hHeld => ?_)
              clear hK K
              try simp only [Act.put, List.setIfInBounds_toArray, List.set_cons_zero, List.set_cons_succ]
              refine takeL (i := 15) (v := ?_) rfl (by kernel_rfl) (by kernel_rfl) (by kernel_rfl) (fun _ _ _ h => h) (Or.inl ⟨by rfl, ?_⟩) hHeld ?_
              rotate_left
              focus (intro wq hSw; clear hSw; go_simp; try with_reducible rfl)
              try simp only [Act.put, List.setIfInBounds_toArray, List.set_cons_zero, List.set_cons_succ]
              refine takeL (i := 16) (v := ?_) rfl (by kernel_rfl) (by kernel_rfl) (by kernel_rfl) (fun _ _ _ h => h) (Or.inl ⟨by rfl, ?_⟩) hHeld ?_
              rotate_left
              focus (intro wq hSw; clear hSw; go_simp; try with_reducible rfl)
              try simp only [Act.put, List.setIfInBounds_toArray, List.set_cons_zero, List.set_cons_succ]
              refine takeL (i := 17) (v := ?_) rfl (by kernel_rfl) (by kernel_rfl) (by kernel_rfl) (fun _ _ _ h => h) (Or.inl ⟨by rfl, ?_⟩) hHeld ?_
              rotate_left
              focus (intro wq hSw; clear hSw; go_simp; try with_reducible rfl)
              try simp only [Act.put, List.setIfInBounds_toArray, List.set_cons_zero, List.set_cons_succ]
              refine takeL (i := 18) (v := ?_) rfl (by kernel_rfl) (by kernel_rfl) (by kernel_rfl) (fun _ _ _ h => h) (Or.inl ⟨by rfl, ?_⟩) hHeld ?_
              rotate_left
              focus (intro wq hSw; clear hSw; go_simp; try with_reducible rfl)
              try simp only [Act.put, List.setIfInBounds_toArray, List.set_cons_zero, List.set_cons_succ]
              refine takeL (i := 19) (v := ?_) rfl (by kernel_rfl) (by kernel_rfl) (by kernel_rfl) (fun _ _ _ h => h) (Or.inl ⟨by rfl, ?_⟩) hHeld ?_
              rotate_left
              focus (intro wq hSw; clear hSw; go_simp; try with_reducible rfl)
              try simp only [Act.put, List.setIfInBounds_toArray, List.set_cons_zero, List.set_cons_succ]
              refine takeL (i := 20) (v := ?_) rfl (by kernel_rfl) (by kernel_rfl) (by kernel_rfl) (fun _ _ _ h => h) (Or.inl ⟨by rfl, ?_⟩) hHeld ?_
              rotate_left
              focus (intro wq hSw; have zz := cell_turn HV0.out hSw HV.out.2.2.2.2.2.2.2; clear hSw; go_simp; try with_reducible rfl)
              try simp only [Act.put, List.setIfInBounds_toArray, List.set_cons_zero, List.set_cons_succ]
              refine wpAnyH_ready (rs := [21]) (by kernel_rfl) (by simp) ?_
              refine consL rfl (fun K hK => ?_) AllReadyH.nil
              go_simp
              refine (HS.out.2.2.2 _ hD7).mono ?_
              rintro e w8 ⟨rfl, hD8, hT8⟩
              have hT8' := hHeld.trans hT8 (fun x hx => .inl hx)
              clear hT8
              refine hK.out _ _ hT8' (fun hHeld => ?_)
              clear hK K
              try simp only [Act.put, List.setIfInBounds_toArray, List.set_cons_zero, List.set_cons_succ]
              refine takeL (i := 22) (v := ?_) rfl (by kernel_rfl) (by kernel_rfl) (by kernel_rfl) (fun _ _ _ h => h) (Or.inl ⟨by rfl, ?_⟩) hHeld ?_
              rotate_left
              focus (intro wq hSw; clear hSw; go_simp; try with_reducible rfl)
              try simp only [Act.put, List.setIfInBounds_toArray, List.set_cons_zero, List.set_cons_succ]
              refine takeL (i := 23) (v := ?_) rfl (by kernel_rfl) (by kernel_rfl) (by kernel_rfl) (fun _ _ _ h => h) (Or.inl ⟨by rfl, ?_⟩) hHeld ?_
              rotate_left
              focus (intro wq hSw; clear hSw; go_simp; try with_reducible rfl)
              try simp only [Act.put, List.setIfInBounds_toArray, List.set_cons_zero, List.set_cons_succ]
              refine wpAnyH_done (by kernel_rfl) ?_ _
              refine NoPanic.normal ?_
              try simp only [Exit.then]
              go_wp2_with fail
              go_ret
              exact ⟨rfl, hD8, (Turn.of_below [d, L] HW.out.2.2.2.2).trans (HR2.out.2.2.1.trans hHeld (fun x hx => .inl hx)) (fun x hx => .inl hx)⟩
end Go.Proofs.YtomngfihaohgdaaDoor
