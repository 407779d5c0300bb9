/-
  blockfs: turn.
  blockfs: Commit.
  blockfs: what is formatted, what is mounted.
  blockfs: begun.
-/
import Derived.Test.YtomngfihaohgdaaDoorFsB
import Derived.Test.YtomngfihaohgdaaDoorFull
import Derived.Lib.SlBytesConst
namespace Go.Proofs.YtomngfihaohgdaaDoor
set_option maxRecDepth 100000
open Go.RowKit

theorem region_turn {P : Program} {ops : Array Oper} {Q : Exit → Act → World → Prop} {id : Nat} {a : Act} {w : World} (T : List Nat) (hm : P.follows .mixedOrders = true)
    (h : ∀ wd, Old w wd → Turn T w wd → w.heap.size = wd.heap.size → wpAnyH P .any ops (NoPanic Q) (Turn T w) ops.size (Array.replicate ops.size false) a wd) : (Code.region id ops true).wp P Q a w :=
  wp_region_noPanic (wp_region_held_drew hm (Turn.drew (Turn.refl T w)) (fun hS => h _ (Old.drew (Old.refl w)) hS rfl))
def toPut (p : PutV) : Nat × List UInt8 := (p.blk.toNat, p.l)
def rowsF (ps : List PutV) : Int → Option Value := ps.foldl (fun f p => putB f p.blk (.slice p.A p.n p.c)) (fun _ => none)
theorem rowsF_take {ps : List PutV} {k : Nat} {p : PutV} (hk : ps[k]? = some p) : rowsF (ps.take (k + 1)) = putB (rowsF (ps.take k)) p.blk (.slice p.A p.n p.c) := by
  unfold rowsF
  rw [List.take_add_one, hk, List.foldl_append]
  rfl
theorem rowsF_spec (ps : List PutV) (h : ∀ p ∈ ps, 0 ≤ p.blk) (i : Nat) :
    (rowsF ps i = none ∧ lastPut (ps.map toPut) i = none) ∨ ∃ p, p ∈ ps ∧ rowsF ps i = some (.slice p.A p.n p.c) ∧ lastPut (ps.map toPut) i = some p.l := by
  induction ps using snocP with
  | h0 => exact .inl ⟨rfl, rfl⟩
  | h1 l p ih =>
    have e1 : rowsF (l ++ [p]) = putB (rowsF l) p.blk (.slice p.A p.n p.c) := by unfold rowsF; rw [List.foldl_append]; rfl
    rw [e1, List.map_append, List.map_cons, List.map_nil, lastPut_snoc]
    unfold putB toPut
    have hp := h p (by simp)
    by_cases he : (i : Int) = p.blk
    · rw [if_pos he, if_pos (by simp only; omega)]
      exact .inr ⟨p, by simp, rfl, rfl⟩
    · rw [if_neg he, if_neg (by simp only; omega)]
      rcases ih (fun q hq => h q (by simp [hq])) with h1 | ⟨q, h1, h2⟩
      · exact .inl h1
      · exact .inr ⟨q, by simp [h1], h2⟩
theorem row_append (ys : List (List UInt8)) : ∀ (xs : List (List UInt8)) (s : Dsk) (i : Nat), s.row i (xs ++ ys) = if (s.row i xs).1 = true then (s.row i xs).2.row (i + xs.length) ys else (false, (s.row i xs).2)
  | [], s, i => by unfold Dsk.row; simp; cases ys <;> simp [Dsk.row] <;> rfl
  | x :: xs, s, i => by
    show (if (s.wrote i x).1 then (s.wrote i x).2.row (i + 1) (xs ++ ys) else (false, (s.wrote i x).2)) = _
    have e : s.row i (x :: xs) = if (s.wrote i x).1 then (s.wrote i x).2.row (i + 1) xs else (false, (s.wrote i x).2) := rfl
    rw [e]
    by_cases h : (s.wrote i x).1 = true
    · rw [if_pos h, if_pos h, row_append ys xs, List.length_cons, show i + 1 + xs.length = i + (xs.length + 1) by omega]
    · rw [if_neg h, if_neg h, if_neg (by simp)]
theorem row_one (s : Dsk) (i : Nat) (b : List UInt8) : s.row i [b] = s.wrote i b := by
  show (if (s.wrote i b).1 then (s.wrote i b).2.row (i + 1) [] else (false, (s.wrote i b).2)) = _
  cases h : s.wrote i b with
  | mk ok s' => cases ok <;> simp [Dsk.row]
theorem row_step {s sr : Dsk} {i0 i : Nat} {m2 : List (List UInt8)} {b : List UInt8} (h : s.row i0 (m2.take i) = (true, sr)) (hb : m2[i]? = some b) : s.row i0 (m2.take (i + 1)) = sr.wrote (i0 + i) b := by
  have hi := (List.getElem?_eq_some_iff.1 hb).1
  rw [List.take_add_one, hb, Option.toList_some, row_append, h, if_pos rfl, List.length_take, Nat.min_eq_left (by omega), row_one]
theorem row_stop {s sr sw : Dsk} {i0 i : Nat} {m2 : List (List UInt8)} {b : List UInt8} (h : s.row i0 (m2.take i) = (true, sr)) (hb : m2[i]? = some b) (hw : sr.wrote (i0 + i) b = (false, sw)) : s.row i0 m2 = (false, sw) := by
  have h1 := row_step h hb
  rw [hw] at h1
  have := row_append (m2.drop (i + 1)) (m2.take (i + 1)) s i0
  rw [List.take_append_drop, h1] at this
  rw [this, if_neg (by simp)]
set_option maxHeartbeats 2000000 in
theorem turn_any (v d L B c k P cp : Nat) (br : Bool) (ps : List PutV) (s : Dsk) (m : List (List UInt8)) (w : World) (hV : VolB w v d B c br) (hD : DkAt w d L s) (hK : KAt w) (hP : PutsAt w P ps)
    (hne : ∀ p ∈ ps, ∀ ad, p.A = some ad → ad.block ∉ [d, L]) (hm : mayP B ps = true) (hB : (s.n - 8) / 2 = B) (hn16 : 16 ≤ s.n) (hn2 : s.n ≤ 1000) (hc : c < 10000) (hf : FOk s k) (hk : k < 10000)
    (hml : m.length = B) (hside : ∀ i b, m[i]? = some b → Cl s (8 + c % 2 * B + i) b) :
    Calls Tryd.prog 35 #[.pointer (some ⟨v, 0, none⟩), .slice (some ⟨P, 0, none⟩) ps.length cp] w fun e w' =>
      e = .returned (.bool (s.turnW headB c (after m (ps.map toPut))).1) ∧ DkAt w' d L (s.turnW headB c (after m (ps.map toPut))).2 ∧ Turn [d, L] w w' := by
  have hmy := hm
  unfold mayP at hmy
  rw [Bool.and_eq_true, decide_eq_true_iff, List.all_eq_true] at hmy
  have hok : ∀ p ∈ ps, 0 ≤ p.blk ∧ p.blk < B ∧ p.l.length = 256 := fun p hp => by
    have := hmy.2 p hp
    unfold okP at this
    simp at this
    omega
  obtain ⟨N, hN⟩ : ∃ N, ps.length = N := ⟨_, rfl⟩
  obtain ⟨m2, hm2⟩ : ∃ m2, after m (ps.map toPut) = m2 := ⟨_, rfl⟩
  have hm2l : m2.length = B := by rw [← hm2, after_len, hml]
  have hvd : v ∉ [d, L] := by
    obtain ⟨⟨cs, h1⟩, cs2, h2⟩ := hD.typed
    simp
    exact ⟨Blk.ne_ hV h1 (by decide), Blk.ne_ hV h2 (by decide)⟩
  obtain ⟨q, hq⟩ : ∃ q, s.turnW headB c m2 = q := ⟨_, rfl⟩
  rw [hN, hm2, hq]
  unfold Dsk.turnW at hq
  rw [hB] at hq
  obtain ⟨i0, hi0⟩ : ∃ i0, 8 + (c + 1) % 2 * B = i0 := ⟨_, rfl⟩
  rw [hi0] at hq
  have hin := side_in (c := c) hn16
  have hin2 := side_in (c := c + 1) hn16
  rw [hB] at hin hin2
  have HQ := Lib.hid hq
  have HV := Lib.hid (And.intro hV (And.intro hD (And.intro hK (And.intro hP (And.intro hne (And.intro hok (And.intro hN hvd)))))))
  have HM := Lib.hid (And.intro hm2 (And.intro hm2l (And.intro hml (And.intro hside (And.intro hf (And.intro hB (And.intro hi0 (And.intro hin (And.intro hin2 (And.intro hn16 hn2))))))))))
  have hNB : N ≤ B := by rw [← hN]; exact hmy.1
  have hB5 : B ≤ 496 := by omega
  clear hV hD hK hP hne hm hmy hok hN hm2 hm2l hml hside hf hB hi0 hin hin2 hn16 hn2 hvd hq
  have hmm := @run_makeMap Tryd.prog
  go_enter Tryd.func35, Tryd.ntmps35
  go_wp2_with fail
  clear hmm
  obtain ⟨M, hM⟩ : ∃ M, w.heap.size = M := ⟨_, rfl⟩
  obtain ⟨w0, hw0⟩ : ∃ w0, w.alloc (.map #[] 0) = w0 := ⟨_, rfl⟩
  have hO0 : Old w w0 := by rw [← hw0]; exact (Old.refl w).alloc _
  have hB0 : BMap w0 M 0 (fun _ => none) := by rw [← hw0, ← hM]; exact BMap.made w
  have HM0 := Lib.hid (And.intro hO0 (And.intro hB0 hM))
  rw [hM, hw0]
  clear hO0 hB0 hw0 hM
  go_loopw [15] (fun i wr => ∃ k : Nat, k ≤ N ∧ i = .int .i64 (k : Int) ∧ Old w wr ∧ BMap wr M k (rowsF (ps.take k))) (fun i _ => N - (intOf i).toNat)
  case atStart => exact ⟨0, by omega, rfl, HM0.out.1, HM0.out.2.1⟩
  case round =>
    obtain ⟨j, hj, rfl, hO, hA⟩ := hrel
    have HR := Lib.hid (And.intro hO hA)
    clear hO hA
    by_cases hlt : j < N
    · have hlti : (j : Int) < N := by omega
      have hltd : decide ((j : Int) < (N : Int)) = true := decide_eq_true hlti
      obtain ⟨p, hp⟩ : ∃ p, ps[j]? = some p := ⟨_, List.getElem?_eq_getElem (by rw [HV.out.2.2.2.2.2.2.1]; exact hlt)⟩
      have hPr := HV.out.2.2.2.1.below HR.out.1
      obtain ⟨k0, k1, _⟩ := hPr.at_ j p hp
      have hok := HV.out.2.2.2.2.2.1 p (List.mem_of_getElem? hp)
      have hst := rowsF_take hp
      obtain ⟨blk, A2, n2, c2, l2⟩ := p
      simp only at k0 k1 hok hst
      have hwf := wf64_small hok.1 (by omega)
      have hjm : j < maxLen := by unfold maxLen; omega
      have HP := Lib.hid (And.intro hst (And.intro hwf hjm))
      clear hPr hp hok hst hwf hjm
      go_wp2_with (first | (at_mapUpdate; go_must (refine wp_putB _ _ _ M j (rowsF (ps.take j)) blk (.slice A2 n2 c2) (BMap.turn HR.out.2 ((Turn.refl [] _).alloc _) (by simp)) HP.out.2.2 HP.out.2.1 rfl rfl rfl rfl rfl ?_); intro w2 hm2 ht2; have H2 := Lib.hid (And.intro hm2 ht2); clear hm2 ht2))
      go_roundw
      case measure => simp [intOf]; omega
      have hOl : Old w w2 := by
        have hl := BMap.lt HM0.out.2.1
        have := ((Turn.of_below [M] HR.out.1).alloc _).trans H2.out.2 (fun x hx => .inl hx)
        exact ⟨this.os, this.tape, this.output, this.size, fun k hk => this.block k hk (by rw [List.mem_singleton]; have := HM0.out.2.2; omega)⟩
      exact ⟨j + 1, by omega, by simp, hOl, by rw [HP.out.1]; exact H2.out.1⟩
    · obtain rfl : j = N := by omega
      have hlti : ¬ (j : Int) < j := by omega
      have hltd : decide ((j : Int) < (j : Int)) = false := decide_eq_false hlti
      have hBm := HR.out.2
      rw [List.take_of_length_le (by rw [HV.out.2.2.2.2.2.2.1]; omega)] at hBm
      obtain ⟨w1, hw1⟩ : ∃ w1, w1 = wr := ⟨_, rfl⟩
      subst hw1
      have hV1 : VolB w1 v d B c br := Blk.below HV.out.1 HR.out.1
      have HW := Lib.hid (And.intro hBm (And.intro hV1 (And.intro (HV.out.2.1.below HR.out.1) (And.intro (HV.out.2.2.1.below HR.out.1) HR.out.1))))
      have hcs := hV1.cells
      clear hBm hV1
      go_wp2_with fail
      clear hcs
      go_loopw [29] (fun i wr => ∃ (i' : Nat) (sr : Dsk), i' ≤ B ∧ i = .int .i64 (i' : Int) ∧ s.row i0 (m2.take i') = (true, sr) ∧ DkAt wr d L sr ∧ Turn [d, L] w1 wr) (fun i _ => B - (intOf i).toNat)
      case atStart => exact ⟨0, s, by omega, rfl, rfl, HW.out.2.2.1, Turn.refl _ _⟩
      case round =>
        obtain ⟨i, sr, hi, rfl, hrow, hDr, hTr⟩ := hrel
        have hVr : VolB wr v d B c br := Blk.turn HW.out.2.1 hTr HV.out.2.2.2.2.2.2.2
        have hdid := row_did (m2.take i) s i0
        have hfok := row_fok (m2.take i) s i0 k HM.out.2.2.2.2.1
        have htl : (m2.take i).length = i := by rw [List.length_take, HM.out.2.1]; omega
        have hcl := fun j b => row_cl (m2.take i) s i0 j b
        rw [hrow] at hdid hfok hcl
        rw [htl] at hfok
        simp only at hdid hfok hcl
        have HR2 := Lib.hid (And.intro hrow (And.intro hDr (And.intro hTr (And.intro hVr (And.intro hdid (And.intro hfok hcl))))))
        clear hrow hDr hTr hVr hdid hfok hcl htl
        by_cases hlt2 : i < B
        · have hlt2i : (i : Int) < B := by omega
          have hlt2d : decide ((i : Int) < (B : Int)) = true := decide_eq_true hlt2i
          obtain ⟨b0, hb0⟩ : ∃ b0, m[i]? = some b0 := ⟨_, List.getElem?_eq_getElem (by rw [HM.out.2.2.1]; exact hlt2)⟩
          have hrd : sr.rd (8 + c % 2 * B + i) = b0 := by
            refine (HR2.out.2.2.2.2.2.2 (8 + c % 2 * B + i) b0 (HM.out.2.2.2.1 i b0 hb0) ?_ ?_).1
            · rw [List.length_take, HM.out.2.1]; have := HM.out.2.2.2.2.2.2.2.2.1; have := HM.out.2.2.2.2.2.2.1; omega
            · rw [List.length_take, HM.out.2.1]
              have hh := side_apart (n := s.n) (c := c) (i := i) (i2 := i0) (j := 8 + c % 2 * B + i) (j2 := i0 + B) (by rw [HM.out.2.2.2.2.2.1]; exact hlt2) (by rw [HM.out.2.2.2.2.2.1]) (by rw [HM.out.2.2.2.2.2.1]; exact HM.out.2.2.2.2.2.2.1) (by rw [HM.out.2.2.2.2.2.1])
              omega
          have hmb := after_get m (ps.map toPut) i (by rw [HM.out.2.2.1]; exact hlt2)
          rw [HM.out.1, hb0, Option.getD_some] at hmb
          have hspec := rowsF_spec ps (fun p hp => (HV.out.2.2.2.2.2.1 p hp).1) i
          have hlk := BMap.look (BMap.turn HW.out.1 HR2.out.2.2.1 (by have := HV.out.2.1.lt; have := HM0.out.2.2; simp; omega)) (i : Int) (wf64_small (by omega) (by omega))
          have HI := Lib.hid (And.intro hb0 (And.intro hrd hmb))
          clear hb0 hrd
          rcases hspec with ⟨hr0, hl0⟩ | ⟨p, hpm, hr0, hl0⟩
          · rw [hr0] at hlk
            simp only [Option.getD_none, Option.isSome_none] at hlk
            rw [hl0, Option.getD_none] at hmb
            have hrdc := volread_any v d L B c br sr wr HR2.out.2.2.2.1 HR2.out.2.1 (by omega) (by omega) (by have := HM.out.2.2.2.2.2.2.2.1; have := HR2.out.2.2.2.2.1.n; omega) i hlt2
            rw [HI.out.2.1] at hrdc
            have HMB := Lib.hid hmb
            clear hr0 hl0 hmb
            go_wp2_with fail
            refine hrdc.mono ?_
            rintro e wx ⟨gx, cx, rfl, hOx, hlx, hbx⟩
            clear hrdc hlk
            have HX := Lib.hid (And.intro (HR2.out.2.1.below hbx) (And.intro (VolB.cells (Blk.below HR2.out.2.2.2.1 hbx)) (And.intro hOx.at_ (And.intro hlx (And.intro (show 256 ≤ cx ∧ cx ≤ maxLen from ⟨hOx.rd.2.1, hOx.rd.2.2.1⟩) (HR2.out.2.2.1.trans (Turn.of_below [d, L] hbx) (fun x hx => .inl hx)))))))
            clear hOx hlx hbx
            go_wp2_with fail
            obtain ⟨qb, hqb⟩ : ∃ qb, i0 + i = qb := ⟨_, rfl⟩
            have hsd : ∀ W, Calls Tryd.prog 32 #[.int .i64 (B : Int), .int .i64 ((c : Int) + 1), .int .i64 (i : Int)] W fun e w' => e = .returned (.int .i64 (qb : Int)) ∧ W = w' := fun W => by
              have := side_any B (c + 1) i (by omega) (by omega) (by omega) W
              rw [HM.out.2.2.2.2.2.2.1, hqb] at this
              exact this
            have hqn : qb < sr.n := by have := HM.out.2.2.2.2.2.2.2.2.1; have := HM.out.2.2.2.2.2.2.1; have := HR2.out.2.2.2.2.1.n; omega
            obtain ⟨wok, sw, hwr⟩ : ∃ wok sw, sr.wrote qb b0 = (wok, sw) := ⟨_, _, rfl⟩
            have hwo : ∀ W, DkAt W d L sr → At W gx 0 b0 → Calls Tryd.prog 30 #[.pointer (some ⟨d, 0, none⟩), .int .i64 (qb : Int), .slice (some ⟨gx, 0, none⟩) 256 cx] W fun e w' => e = .returned (.bool wok) ∧ DkAt w' d L sw ∧ Turn [d, L] W w' := fun W hDW hAW => by
              have := wrote_any d L sr W (k + i) hDW HR2.out.2.2.2.2.2.1 (by omega) qb hqn gx 0 cx b0 hAW HX.out.2.2.2.1 HX.out.2.2.2.2.1
              rw [hwr] at this
              exact this
            have HS := Lib.hid (And.intro hsd (And.intro hwo (And.intro hwr hqb)))
            have g1 : IntKind.i64.wrap ((c : Int) + 1) = (c : Int) + 1 := IntWalk.i64_in _ (by omega)
            have HV0 := Lib.hid HX.out.2.1.1
            have HV1 := Lib.hid HX.out.2.1.2.1
            have HV2 := Lib.hid HX.out.2.1.2.2.1
            clear hsd hwo hwr hqb hqn
            refine region_turn [d, L] (by kernel_rfl) (fun wd hOd hHeld hSz => ?_)
            have HSz := Lib.hid hSz
            clear hSz
            refine takeL (i := 0) (v := ?_) rfl (by kernel_rfl) (by kernel_rfl) (by kernel_rfl) (fun _ _ _ h => h) (Or.inl ⟨by rfl, ?_⟩) hHeld ?_
            rotate_left
            focus (intro wq hSw; clear hSw; go_simp; try with_reducible rfl)
            try simp only [Act.put, List.setIfInBounds_toArray, List.set_cons_zero, List.set_cons_succ]
            refine takeL (i := 1) (v := ?_) rfl (by kernel_rfl) (by kernel_rfl) (by kernel_rfl) (fun _ _ _ h => h) (Or.inl ⟨by rfl, ?_⟩) hHeld ?_
            rotate_left
            focus (intro wq hSw; clear hSw; go_simp; try with_reducible rfl)
            try simp only [Act.put, List.setIfInBounds_toArray, List.set_cons_zero, List.set_cons_succ]
            refine takeL (i := 2) (v := ?_) rfl (by kernel_rfl) (by kernel_rfl) (by kernel_rfl) (fun _ _ _ h => h) (Or.inl ⟨by rfl, ?_⟩) hHeld ?_
            rotate_left
            focus (intro wq hSw; clear hSw; go_simp; try with_reducible rfl)
            try simp only [Act.put, List.setIfInBounds_toArray, List.set_cons_zero, List.set_cons_succ]
            refine takeL (i := 3) (v := ?_) rfl (by kernel_rfl) (by kernel_rfl) (by kernel_rfl) (fun _ _ _ h => h) (Or.inl ⟨by rfl, ?_⟩) hHeld ?_
            rotate_left
            focus (intro wq hSw; have zz := cell_turn HV0.out hSw HV.out.2.2.2.2.2.2.2; clear hSw; go_simp; try with_reducible rfl)
            try simp only [Act.put, List.setIfInBounds_toArray, List.set_cons_zero, List.set_cons_succ]
            refine takeL (i := 4) (v := ?_) rfl (by kernel_rfl) (by kernel_rfl) (by kernel_rfl) (fun _ _ _ h => h) (Or.inl ⟨by rfl, ?_⟩) hHeld ?_
            rotate_left
            focus (intro wq hSw; clear hSw; go_simp; try with_reducible rfl)
            try simp only [Act.put, List.setIfInBounds_toArray, List.set_cons_zero, List.set_cons_succ]
            refine takeL (i := 5) (v := ?_) rfl (by kernel_rfl) (by kernel_rfl) (by kernel_rfl) (fun _ _ _ h => h) (Or.inl ⟨by rfl, ?_⟩) hHeld ?_
            rotate_left
            focus (intro wq hSw; clear hSw; go_simp; try with_reducible rfl)
            try simp only [Act.put, List.setIfInBounds_toArray, List.set_cons_zero, List.set_cons_succ]
            refine takeL (i := 6) (v := ?_) rfl (by kernel_rfl) (by kernel_rfl) (by kernel_rfl) (fun _ _ _ h => h) (Or.inl ⟨by rfl, ?_⟩) hHeld ?_
            rotate_left
            focus (intro wq hSw; clear hSw; go_simp; try with_reducible rfl)
            try simp only [Act.put, List.setIfInBounds_toArray, List.set_cons_zero, List.set_cons_succ]
            refine takeL (i := 7) (v := ?_) rfl (by kernel_rfl) (by kernel_rfl) (by kernel_rfl) (fun _ _ _ h => h) (Or.inl ⟨by rfl, ?_⟩) hHeld ?_
            rotate_left
            focus (intro wq hSw; have zz := cell_turn HV1.out hSw HV.out.2.2.2.2.2.2.2; clear hSw; go_simp; try with_reducible rfl)
            try simp only [Act.put, List.setIfInBounds_toArray, List.set_cons_zero, List.set_cons_succ]
            refine takeL (i := 8) (v := ?_) rfl (by kernel_rfl) (by kernel_rfl) (by kernel_rfl) (fun _ _ _ h => h) (Or.inl ⟨by rfl, ?_⟩) hHeld ?_
            rotate_left
            focus (intro wq hSw; clear hSw; go_simp; try with_reducible rfl)
            try simp only [Act.put, List.setIfInBounds_toArray, List.set_cons_zero, List.set_cons_succ]
            refine takeL (i := 9) (v := ?_) rfl (by kernel_rfl) (by kernel_rfl) (by kernel_rfl) (fun _ _ _ h => h) (Or.inl ⟨by rfl, ?_⟩) hHeld ?_
            rotate_left
            focus (intro wq hSw; clear hSw; go_simp; try with_reducible rfl)
            try simp only [Act.put, List.setIfInBounds_toArray, List.set_cons_zero, List.set_cons_succ]
            refine takeL (i := 10) (v := ?_) rfl (by kernel_rfl) (by kernel_rfl) (by kernel_rfl) (fun _ _ _ h => h) (Or.inl ⟨by rfl, ?_⟩) hHeld ?_
            rotate_left
            focus (intro wq hSw; clear hSw; go_simp; try with_reducible rfl)
            try simp only [Act.put, List.setIfInBounds_toArray, List.set_cons_zero, List.set_cons_succ]
            refine takeL (i := 11) (v := ?_) rfl (by kernel_rfl) (by kernel_rfl) (by kernel_rfl) (fun _ _ _ h => h) (Or.inl ⟨by rfl, ?_⟩) hHeld ?_
            rotate_left
            focus (intro wq hSw; have zz := cell_turn HV2.out hSw HV.out.2.2.2.2.2.2.2; clear hSw; go_simp; try with_reducible rfl)
            try simp only [Act.put, List.setIfInBounds_toArray, List.set_cons_zero, List.set_cons_succ]
            refine takeL (i := 12) (v := ?_) rfl (by kernel_rfl) (by kernel_rfl) (by kernel_rfl) (fun _ _ _ h => h) (Or.inl ⟨by rfl, ?_⟩) hHeld ?_
            rotate_left
            focus (intro wq hSw; clear hSw; go_simp; try with_reducible rfl)
            try simp only [Act.put, List.setIfInBounds_toArray, List.set_cons_zero, List.set_cons_succ]
            refine takeL (i := 13) (v := ?_) rfl (by kernel_rfl) (by kernel_rfl) (by kernel_rfl) (fun _ _ _ h => h) (Or.inl ⟨by rfl, ?_⟩) hHeld ?_
            rotate_left
            focus (intro wq hSw; clear hSw; go_simp; try with_reducible rfl)
            try simp only [Act.put, List.setIfInBounds_toArray, List.set_cons_zero, List.set_cons_succ]
            refine takeL (i := 15) (v := ?_) rfl (by kernel_rfl) (by kernel_rfl) (by kernel_rfl) (fun _ _ _ h => h) (Or.inl ⟨by rfl, ?_⟩) hHeld ?_
            rotate_left
            focus (intro wq hSw; clear hSw; go_simp; try with_reducible rfl)
            try simp only [Act.put, List.setIfInBounds_toArray, List.set_cons_zero, List.set_cons_succ]
            refine wpAnyH_ready (rs := [14]) (by kernel_rfl) (by simp) ?_
            refine consL rfl (fun K hK => ?_) AllReadyH.nil
            go_simp
            refine (HS.out.1 _).mono ?_
            rintro e w' ⟨rfl, rfl⟩
            refine hK.out _ _ (by repeat (first | exact hHeld | exact Old.refl _ | assumption | refine Old.drew ?_ | refine Old.drewN ?_ _ | refine Old.alloc ?_ _)) (fun hHeld => ?_)
            clear hK K
            try simp only [Act.put, List.setIfInBounds_toArray, List.set_cons_zero, List.set_cons_succ]
            refine wpAnyH_ready (rs := [16]) (by kernel_rfl) (by simp) ?_
            refine consL rfl (fun K hK => ?_) AllReadyH.nil
            go_simp
            refine (HS.out.2.1 _ (HX.out.1.below hOd) (HX.out.2.2.1.keep hOd.size (hOd.block _ HX.out.2.2.1.1))).mono ?_
            rintro e w5 ⟨rfl, hD5, hT5⟩
            have hT5' := hHeld.trans hT5 (fun x hx => .inl hx)
            refine hK.out _ _ hT5' (fun hHeld => ?_)
            clear hK K
            try simp only [Act.put, List.setIfInBounds_toArray, List.set_cons_zero, List.set_cons_succ]
            refine takeL (i := 17) (v := ?_) rfl (by kernel_rfl) (by kernel_rfl) (by kernel_rfl) (fun _ _ _ h => h) (Or.inl ⟨by rfl, ?_⟩) hHeld ?_
            rotate_left
            focus (intro wq hSw; clear hSw; go_simp; try with_reducible rfl)
            try simp only [Act.put, List.setIfInBounds_toArray, List.set_cons_zero, List.set_cons_succ]
            refine wpAnyH_done (by kernel_rfl) ?_ _
            refine NoPanic.normal ?_
            try simp only [Exit.then]
            have H5 := Lib.hid (And.intro hD5 (And.intro hT5 hHeld))
            clear hD5 hT5 hHeld hOd
            cases wok with
            | false =>
              have hst := row_stop HR2.out.1 HMB.out (by rw [HS.out.2.2.2]; exact HS.out.2.2.1)
              have hq := HQ.out
              rw [hst, if_pos rfl] at hq
              subst hq
              go_wp2_with fail
              go_ret
              exact ⟨rfl, H5.out.1, (Turn.of_below [d, L] HW.out.2.2.2.2).trans (HX.out.2.2.2.2.2.trans H5.out.2.2 (fun x hx => .inl hx)) (fun x hx => .inl hx)⟩
            | true =>
              go_wp2_with fail
              go_roundw
              case measure => simp [intOf]; omega
              exact ⟨i + 1, sw, by omega, by simp, by rw [row_step HR2.out.1 HMB.out, HS.out.2.2.2]; exact HS.out.2.2.1, H5.out.1, HX.out.2.2.2.2.2.trans H5.out.2.2 (fun x hx => .inl hx)⟩
          · rw [hr0] at hlk
            simp only [Option.getD_some, Option.isSome_some] at hlk
            rw [hl0, Option.getD_some] at hmb
            obtain ⟨kp, hkp⟩ := List.getElem?_of_mem hpm
            have hrp := (HV.out.2.2.2.1.at_ kp p hkp).2.2
            have hneA := HV.out.2.2.2.2.1 p hpm
            have hl256 := (HV.out.2.2.2.2.2.1 p hpm).2.2
            obtain ⟨blk, A2, n2, c2, l2⟩ := p
            simp only at hlk hmb hrp hneA hl256
            obtain rfl : n2 = 256 := by have := hrp.1; omega
            obtain ⟨g2, o2, rfl, hat2⟩ := hrp.addr (by omega)
            have hr1 := (hrp.below HW.out.2.2.2.2).turn HR2.out.2.2.1 (fun ad had => hneA ad had)
            obtain ⟨g3, o3, he3, hat3⟩ := hr1.addr (by omega)
            injection he3 with he3
            injection he3 with hg3 ho3
            subst hg3 ho3
            have HX := Lib.hid (And.intro HR2.out.2.1 (And.intro (VolB.cells HR2.out.2.2.2.1) (And.intro hat3 (And.intro hl256 (And.intro (show 256 ≤ c2 ∧ c2 ≤ maxLen from ⟨hr1.2.1, hr1.2.2.1⟩) HR2.out.2.2.1)))))
            have HMB := Lib.hid hmb
            clear hr0 hl0 hmb hkp hrp hneA hl256 hat2 hr1 hat3 hpm
            obtain ⟨wx, hwx⟩ : ∃ wx, wx = wr := ⟨_, rfl⟩
            subst hwx
            go_wp2_with fail
            clear hlk
            obtain ⟨qb, hqb⟩ : ∃ qb, i0 + i = qb := ⟨_, rfl⟩
            have hsd : ∀ W, Calls Tryd.prog 32 #[.int .i64 (B : Int), .int .i64 ((c : Int) + 1), .int .i64 (i : Int)] W fun e w' => e = .returned (.int .i64 (qb : Int)) ∧ W = w' := fun W => by
              have := side_any B (c + 1) i (by omega) (by omega) (by omega) W
              rw [HM.out.2.2.2.2.2.2.1, hqb] at this
              exact this
            have hqn : qb < sr.n := by have := HM.out.2.2.2.2.2.2.2.2.1; have := HM.out.2.2.2.2.2.2.1; have := HR2.out.2.2.2.2.1.n; omega
            obtain ⟨wok, sw, hwr⟩ : ∃ wok sw, sr.wrote qb l2 = (wok, sw) := ⟨_, _, rfl⟩
            have hwo : ∀ W, DkAt W d L sr → At W g2 o2 l2 → Calls Tryd.prog 30 #[.pointer (some ⟨d, 0, none⟩), .int .i64 (qb : Int), .slice (some ⟨g2, o2, none⟩) 256 c2] W fun e w' => e = .returned (.bool wok) ∧ DkAt w' d L sw ∧ Turn [d, L] W w' := fun W hDW hAW => by
              have := wrote_any d L sr W (k + i) hDW HR2.out.2.2.2.2.2.1 (by omega) qb hqn g2 o2 c2 l2 hAW HX.out.2.2.2.1 HX.out.2.2.2.2.1
              rw [hwr] at this
              exact this
            have HS := Lib.hid (And.intro hsd (And.intro hwo (And.intro hwr hqb)))
            have g1 : IntKind.i64.wrap ((c : Int) + 1) = (c : Int) + 1 := IntWalk.i64_in _ (by omega)
            have HV0 := Lib.hid HX.out.2.1.1
            have HV1 := Lib.hid HX.out.2.1.2.1
            have HV2 := Lib.hid HX.out.2.1.2.2.1
            clear hsd hwo hwr hqb hqn
            refine region_turn [d, L] (by kernel_rfl) (fun wd hOd hHeld hSz => ?_)
            have HSz := Lib.hid hSz
            clear hSz
            refine takeL (i := 0) (v := ?_) rfl (by kernel_rfl) (by kernel_rfl) (by kernel_rfl) (fun _ _ _ h => h) (Or.inl ⟨by rfl, ?_⟩) hHeld ?_
            rotate_left
            focus (intro wq hSw; clear hSw; go_simp; try with_reducible rfl)
            try simp only [Act.put, List.setIfInBounds_toArray, List.set_cons_zero, List.set_cons_succ]
            refine takeL (i := 1) (v := ?_) rfl (by kernel_rfl) (by kernel_rfl) (by kernel_rfl) (fun _ _ _ h => h) (Or.inl ⟨by rfl, ?_⟩) hHeld ?_
            rotate_left
            focus (intro wq hSw; clear hSw; go_simp; try with_reducible rfl)
            try simp only [Act.put, List.setIfInBounds_toArray, List.set_cons_zero, List.set_cons_succ]
            refine takeL (i := 2) (v := ?_) rfl (by kernel_rfl) (by kernel_rfl) (by kernel_rfl) (fun _ _ _ h => h) (Or.inl ⟨by rfl, ?_⟩) hHeld ?_
            rotate_left
            focus (intro wq hSw; clear hSw; go_simp; try with_reducible rfl)
            try simp only [Act.put, List.setIfInBounds_toArray, List.set_cons_zero, List.set_cons_succ]
            refine takeL (i := 3) (v := ?_) rfl (by kernel_rfl) (by kernel_rfl) (by kernel_rfl) (fun _ _ _ h => h) (Or.inl ⟨by rfl, ?_⟩) hHeld ?_
            rotate_left
            focus (intro wq hSw; have zz := cell_turn HV0.out hSw HV.out.2.2.2.2.2.2.2; clear hSw; go_simp; try with_reducible rfl)
            try simp only [Act.put, List.setIfInBounds_toArray, List.set_cons_zero, List.set_cons_succ]
            refine takeL (i := 4) (v := ?_) rfl (by kernel_rfl) (by kernel_rfl) (by kernel_rfl) (fun _ _ _ h => h) (Or.inl ⟨by rfl, ?_⟩) hHeld ?_
            rotate_left
            focus (intro wq hSw; clear hSw; go_simp; try with_reducible rfl)
            try simp only [Act.put, List.setIfInBounds_toArray, List.set_cons_zero, List.set_cons_succ]
            refine takeL (i := 5) (v := ?_) rfl (by kernel_rfl) (by kernel_rfl) (by kernel_rfl) (fun _ _ _ h => h) (Or.inl ⟨by rfl, ?_⟩) hHeld ?_
            rotate_left
            focus (intro wq hSw; clear hSw; go_simp; try with_reducible rfl)
            try simp only [Act.put, List.setIfInBounds_toArray, List.set_cons_zero, List.set_cons_succ]
            refine takeL (i := 6) (v := ?_) rfl (by kernel_rfl) (by kernel_rfl) (by kernel_rfl) (fun _ _ _ h => h) (Or.inl ⟨by rfl, ?_⟩) hHeld ?_
            rotate_left
            focus (intro wq hSw; clear hSw; go_simp; try with_reducible rfl)
            try simp only [Act.put, List.setIfInBounds_toArray, List.set_cons_zero, List.set_cons_succ]
            refine takeL (i := 7) (v := ?_) rfl (by kernel_rfl) (by kernel_rfl) (by kernel_rfl) (fun _ _ _ h => h) (Or.inl ⟨by rfl, ?_⟩) hHeld ?_
            rotate_left
            focus (intro wq hSw; have zz := cell_turn HV1.out hSw HV.out.2.2.2.2.2.2.2; clear hSw; go_simp; try with_reducible rfl)
            try simp only [Act.put, List.setIfInBounds_toArray, List.set_cons_zero, List.set_cons_succ]
            refine takeL (i := 8) (v := ?_) rfl (by kernel_rfl) (by kernel_rfl) (by kernel_rfl) (fun _ _ _ h => h) (Or.inl ⟨by rfl, ?_⟩) hHeld ?_
            rotate_left
            focus (intro wq hSw; clear hSw; go_simp; try with_reducible rfl)
            try simp only [Act.put, List.setIfInBounds_toArray, List.set_cons_zero, List.set_cons_succ]
            refine takeL (i := 9) (v := ?_) rfl (by kernel_rfl) (by kernel_rfl) (by kernel_rfl) (fun _ _ _ h => h) (Or.inl ⟨by rfl, ?_⟩) hHeld ?_
            rotate_left
            focus (intro wq hSw; clear hSw; go_simp; try with_reducible rfl)
            try simp only [Act.put, List.setIfInBounds_toArray, List.set_cons_zero, List.set_cons_succ]
            refine takeL (i := 10) (v := ?_) rfl (by kernel_rfl) (by kernel_rfl) (by kernel_rfl) (fun _ _ _ h => h) (Or.inl ⟨by rfl, ?_⟩) hHeld ?_
            rotate_left
            focus (intro wq hSw; clear hSw; go_simp; try with_reducible rfl)
            try simp only [Act.put, List.setIfInBounds_toArray, List.set_cons_zero, List.set_cons_succ]
            refine takeL (i := 11) (v := ?_) rfl (by kernel_rfl) (by kernel_rfl) (by kernel_rfl) (fun _ _ _ h => h) (Or.inl ⟨by rfl, ?_⟩) hHeld ?_
            rotate_left
            focus (intro wq hSw; have zz := cell_turn HV2.out hSw HV.out.2.2.2.2.2.2.2; clear hSw; go_simp; try with_reducible rfl)
            try simp only [Act.put, List.setIfInBounds_toArray, List.set_cons_zero, List.set_cons_succ]
            refine takeL (i := 12) (v := ?_) rfl (by kernel_rfl) (by kernel_rfl) (by kernel_rfl) (fun _ _ _ h => h) (Or.inl ⟨by rfl, ?_⟩) hHeld ?_
            rotate_left
            focus (intro wq hSw; clear hSw; go_simp; try with_reducible rfl)
            try simp only [Act.put, List.setIfInBounds_toArray, List.set_cons_zero, List.set_cons_succ]
            refine takeL (i := 13) (v := ?_) rfl (by kernel_rfl) (by kernel_rfl) (by kernel_rfl) (fun _ _ _ h => h) (Or.inl ⟨by rfl, ?_⟩) hHeld ?_
            rotate_left
            focus (intro wq hSw; clear hSw; go_simp; try with_reducible rfl)
            try simp only [Act.put, List.setIfInBounds_toArray, List.set_cons_zero, List.set_cons_succ]
            refine takeL (i := 15) (v := ?_) rfl (by kernel_rfl) (by kernel_rfl) (by kernel_rfl) (fun _ _ _ h => h) (Or.inl ⟨by rfl, ?_⟩) hHeld ?_
            rotate_left
            focus (intro wq hSw; clear hSw; go_simp; try with_reducible rfl)
            try simp only [Act.put, List.setIfInBounds_toArray, List.set_cons_zero, List.set_cons_succ]
            refine wpAnyH_ready (rs := [14]) (by kernel_rfl) (by simp) ?_
            refine consL rfl (fun K hK => ?_) AllReadyH.nil
            go_simp
            refine (HS.out.1 _).mono ?_
            rintro e w' ⟨rfl, rfl⟩
            refine hK.out _ _ (by repeat (first | exact hHeld | exact Old.refl _ | assumption | refine Old.drew ?_ | refine Old.drewN ?_ _ | refine Old.alloc ?_ _)) (fun hHeld => ?_)
            clear hK K
            try simp only [Act.put, List.setIfInBounds_toArray, List.set_cons_zero, List.set_cons_succ]
            refine wpAnyH_ready (rs := [16]) (by kernel_rfl) (by simp) ?_
            refine consL rfl (fun K hK => ?_) AllReadyH.nil
            go_simp
            refine (HS.out.2.1 _ (HX.out.1.below hOd) (HX.out.2.2.1.keep hOd.size (hOd.block _ HX.out.2.2.1.1))).mono ?_
            rintro e w5 ⟨rfl, hD5, hT5⟩
            have hT5' := hHeld.trans hT5 (fun x hx => .inl hx)
            refine hK.out _ _ hT5' (fun hHeld => ?_)
            clear hK K
            try simp only [Act.put, List.setIfInBounds_toArray, List.set_cons_zero, List.set_cons_succ]
            refine takeL (i := 17) (v := ?_) rfl (by kernel_rfl) (by kernel_rfl) (by kernel_rfl) (fun _ _ _ h => h) (Or.inl ⟨by rfl, ?_⟩) hHeld ?_
            rotate_left
            focus (intro wq hSw; clear hSw; go_simp; try with_reducible rfl)
            try simp only [Act.put, List.setIfInBounds_toArray, List.set_cons_zero, List.set_cons_succ]
            refine wpAnyH_done (by kernel_rfl) ?_ _
            refine NoPanic.normal ?_
            try simp only [Exit.then]
            have H5 := Lib.hid (And.intro hD5 (And.intro hT5 hHeld))
            clear hD5 hT5 hHeld hOd
            cases wok with
            | false =>
              have hst := row_stop HR2.out.1 HMB.out (by rw [HS.out.2.2.2]; exact HS.out.2.2.1)
              have hq := HQ.out
              rw [hst, if_pos rfl] at hq
              subst hq
              go_wp2_with fail
              go_ret
              exact ⟨rfl, H5.out.1, (Turn.of_below [d, L] HW.out.2.2.2.2).trans (HX.out.2.2.2.2.2.trans H5.out.2.2 (fun x hx => .inl hx)) (fun x hx => .inl hx)⟩
            | true =>
              go_wp2_with fail
              go_roundw
              case measure => simp [intOf]; omega
              exact ⟨i + 1, sw, by omega, by simp, by rw [row_step HR2.out.1 HMB.out, HS.out.2.2.2]; exact HS.out.2.2.1, H5.out.1, HX.out.2.2.2.2.2.trans H5.out.2.2 (fun x hx => .inl hx)⟩
        · obtain rfl : i = B := by omega
          have hlt2i : ¬ (i : Int) < i := by omega
          have hlt2d : decide ((i : Int) < (i : Int)) = false := decide_eq_false hlt2i
          have hrow := HR2.out.1
          rw [List.take_of_length_le (by rw [HM.out.2.1]; omega)] at hrow
          have hcs := VolB.cells HR2.out.2.2.2.1
          have g1 : IntKind.i64.wrap ((c : Int) + 1) = (c : Int) + 1 := IntWalk.i64_in _ (by omega)
          obtain ⟨r, hr⟩ : ∃ r, (c + 1) % 2 = r := ⟨_, rfl⟩
          have hcm : ((c : Int) + 1).tmod 2 = (r : Int) := by rw [Int.tmod_eq_emod_of_nonneg (by omega)]; omega
          have hr2 : r < 2 := by omega
          have hq := HQ.out
          rw [hrow, hr] at hq
          simp only [Bool.true_eq_false, if_false] at hq
          obtain ⟨ok1, s1, hs1⟩ : ∃ ok1 s1, sr.sy = (ok1, s1) := ⟨_, _, rfl⟩
          obtain ⟨ok2, s2, hs2⟩ : ∃ ok2 s2, s1.wr r (headB (c + 1)) = (ok2, s2) := ⟨_, _, rfl⟩
          obtain ⟨ok3, s3, hs3⟩ : ∃ ok3 s3, s2.sy = (ok3, s3) := ⟨_, _, rfl⟩
          have f0 := HR2.out.2.2.2.2.2.1
          have f1 := sy_fok f0
          have n1 := (sy_did sr).n
          rw [hs1] at f1 n1 hq
          simp only at f1 n1 hq
          have f2 := wr_fok f1 r (headB (c + 1))
          rw [hs2] at f2 hq
          simp only at f2 hq
          rw [hs3] at hq
          have hsy1 : ∀ W, DkAt W d L sr → Calls Tryd.prog 31 #[.pointer (some ⟨d, 0, none⟩)] W fun e w' => e = .returned (.bool ok1) ∧ DkAt w' d L s1 ∧ Turn [d, L] W w' := fun W hDW => by
            have := dksync_any d L sr W _ hDW f0 (by omega)
            rw [hs1] at this
            exact this
          have hsy2 : ∀ W, DkAt W d L s2 → Calls Tryd.prog 31 #[.pointer (some ⟨d, 0, none⟩)] W fun e w' => e = .returned (.bool ok3) ∧ DkAt w' d L s3 ∧ Turn [d, L] W w' := fun W hDW => by
            have := dksync_any d L s2 W _ hDW f2 (by omega)
            rw [hs3] at this
            exact this
          have hrn : r < s1.n := by have := HM.out.2.2.2.2.2.2.2.2.2.1; have := HR2.out.2.2.2.2.1.n; omega
          have hwr2 : ∀ W b off cc, DkAt W d L s1 → At W b off (headB (c + 1)) → Calls Tryd.prog 42 #[.pointer (some ⟨d, 0, none⟩), .int .i64 (r : Int), .slice (some ⟨b, off, none⟩) 256 cc] W fun e w' => e = .returned (.bool ok2) ∧ DkAt w' d L s2 ∧ Turn [d, L] W w' := fun W b off cc hDW hAW => by
            have := dkwrite_any d L s1 W _ hDW f1 (by omega) r hrn b off cc (headB (c + 1)) hAW (headB_len _)
            rw [hs2] at this
            exact this
          have hhd : ∀ W, KAt W → Calls Tryd.prog 33 #[.int .i64 ((c : Int) + 1)] W fun e w' => ∃ A n c', e = .returned (.slice A n c') ∧ Own w' W.heap.size (.slice A n c') (headB (c + 1)) ∧ Below W.heap.size W w' := fun W hKW => head_any (c + 1) (by omega) W hKW
          have HS := Lib.hid (And.intro hsy1 (And.intro hhd (And.intro hwr2 hsy2)))
          have HQ2 := Lib.hid hq
          have HV0 := Lib.hid hcs.1
          clear hq hs1 hs2 hs3 f0 f1 f2 n1 hsy1 hsy2 hrn hwr2 hhd hr
          go_wp2_with fail
          clear hcs
          cases ok1 with
          | false =>
            have hq := HQ2.out
            rw [if_pos rfl] at hq
            subst hq
            refine region_turn [d, L] (by kernel_rfl) (fun wd hOd hHeld hSz => ?_)
            have HSz := Lib.hid hSz
            clear hSz
            refine takeL (i := 0) (v := ?_) rfl (by kernel_rfl) (by kernel_rfl) (by kernel_rfl) (fun _ _ _ h => h) (Or.inl ⟨by rfl, ?_⟩) hHeld ?_
            rotate_left
            focus (intro wq hSw; clear hSw; go_simp; try with_reducible rfl)
            try simp only [Act.put, List.setIfInBounds_toArray, List.set_cons_zero, List.set_cons_succ]
            refine takeL (i := 1) (v := ?_) rfl (by kernel_rfl) (by kernel_rfl) (by kernel_rfl) (fun _ _ _ h => h) (Or.inl ⟨by rfl, ?_⟩) hHeld ?_
            rotate_left
            focus (intro wq hSw; clear hSw; go_simp; try with_reducible rfl)
            try simp only [Act.put, List.setIfInBounds_toArray, List.set_cons_zero, List.set_cons_succ]
            refine takeL (i := 2) (v := ?_) rfl (by kernel_rfl) (by kernel_rfl) (by kernel_rfl) (fun _ _ _ h => h) (Or.inl ⟨by rfl, ?_⟩) hHeld ?_
            rotate_left
            focus (intro wq hSw; clear hSw; go_simp; try with_reducible rfl)
            try simp only [Act.put, List.setIfInBounds_toArray, List.set_cons_zero, List.set_cons_succ]
            refine takeL (i := 3) (v := ?_) rfl (by kernel_rfl) (by kernel_rfl) (by kernel_rfl) (fun _ _ _ h => h) (Or.inl ⟨by rfl, ?_⟩) hHeld ?_
            rotate_left
            focus (intro wq hSw; have zz := cell_turn HV0.out hSw HV.out.2.2.2.2.2.2.2; clear hSw; go_simp; try with_reducible rfl)
            try simp only [Act.put, List.setIfInBounds_toArray, List.set_cons_zero, List.set_cons_succ]
            refine wpAnyH_ready (rs := [4]) (by kernel_rfl) (by simp) ?_
            refine consL rfl (fun K hK => ?_) AllReadyH.nil
            go_simp
            refine (HS.out.1 _ (HR2.out.2.1.below hOd)).mono ?_
            rintro e w5 ⟨rfl, hD5, hT5⟩
            have hT5' := hHeld.trans hT5 (fun x hx => .inl hx)
            clear hT5
            refine hK.out _ _ hT5' (fun hHeld => ?_)
            clear hK K
            try simp only [Act.put, List.setIfInBounds_toArray, List.set_cons_zero, List.set_cons_succ]
            refine takeL (i := 5) (v := ?_) rfl (by kernel_rfl) (by kernel_rfl) (by kernel_rfl) (fun _ _ _ h => h) (Or.inl ⟨by rfl, ?_⟩) hHeld ?_
            rotate_left
            focus (intro wq hSw; clear hSw; go_simp; try with_reducible rfl)
            try simp only [Act.put, List.setIfInBounds_toArray, List.set_cons_zero, List.set_cons_succ]
            refine takeL (i := 6) (v := undef) rfl (by kernel_rfl) (by kernel_rfl) (by kernel_rfl) (fun _ _ _ h => h) (Or.inr ⟨by rfl, rfl⟩) hHeld ?_
            try simp only [Act.put, List.setIfInBounds_toArray, List.set_cons_zero, List.set_cons_succ]
            refine takeL (i := 7) (v := undef) rfl (by kernel_rfl) (by kernel_rfl) (by kernel_rfl) (fun _ _ _ h => h) (Or.inr ⟨by rfl, rfl⟩) hHeld ?_
            try simp only [Act.put, List.setIfInBounds_toArray, List.set_cons_zero, List.set_cons_succ]
            refine takeL (i := 8) (v := undef) rfl (by kernel_rfl) (by kernel_rfl) (by kernel_rfl) (fun _ _ _ h => h) (Or.inr ⟨by rfl, rfl⟩) hHeld ?_
            try simp only [Act.put, List.setIfInBounds_toArray, List.set_cons_zero, List.set_cons_succ]
            refine takeL (i := 9) (v := undef) rfl (by kernel_rfl) (by kernel_rfl) (by kernel_rfl) (fun _ _ _ h => h) (Or.inr ⟨by rfl, rfl⟩) hHeld ?_
            try simp only [Act.put, List.setIfInBounds_toArray, List.set_cons_zero, List.set_cons_succ]
            refine takeL (i := 10) (v := undef) rfl (by kernel_rfl) (by kernel_rfl) (by kernel_rfl) (fun _ _ _ h => h) (Or.inr ⟨by rfl, rfl⟩) hHeld ?_
            try simp only [Act.put, List.setIfInBounds_toArray, List.set_cons_zero, List.set_cons_succ]
            refine takeL (i := 11) (v := undef) rfl (by kernel_rfl) (by kernel_rfl) (by kernel_rfl) (fun _ _ _ h => h) (Or.inr ⟨by rfl, rfl⟩) hHeld ?_
            try simp only [Act.put, List.setIfInBounds_toArray, List.set_cons_zero, List.set_cons_succ]
            refine takeL (i := 12) (v := undef) rfl (by kernel_rfl) (by kernel_rfl) (by kernel_rfl) (fun _ _ _ h => h) (Or.inr ⟨by rfl, rfl⟩) hHeld ?_
            try simp only [Act.put, List.setIfInBounds_toArray, List.set_cons_zero, List.set_cons_succ]
            refine takeL (i := 13) (v := undef) rfl (by kernel_rfl) (by kernel_rfl) (by kernel_rfl) (fun _ _ _ h => h) (Or.inr ⟨by rfl, rfl⟩) hHeld ?_
            try simp only [Act.put, List.setIfInBounds_toArray, List.set_cons_zero, List.set_cons_succ]
            refine takeL (i := 14) (v := undef) rfl (by kernel_rfl) (by kernel_rfl) (by kernel_rfl) (fun _ _ _ h => h) (Or.inr ⟨by rfl, rfl⟩) hHeld ?_
            try simp only [Act.put, List.setIfInBounds_toArray, List.set_cons_zero, List.set_cons_succ]
            refine takeL (i := 15) (v := ?_) rfl (by kernel_rfl) (by kernel_rfl) (by kernel_rfl) (fun _ _ _ h => h) (Or.inl ⟨by rfl, ?_⟩) hHeld ?_
            rotate_left
            focus (intro wq hSw; clear hSw; go_simp; try with_reducible rfl)
            try simp only [Act.put, List.setIfInBounds_toArray, List.set_cons_zero, List.set_cons_succ]
            refine takeL (i := 16) (v := ?_) rfl (by kernel_rfl) (by kernel_rfl) (by kernel_rfl) (fun _ _ _ h => h) (Or.inl ⟨by rfl, ?_⟩) hHeld ?_
            rotate_left
            focus (intro wq hSw; clear hSw; go_simp; try with_reducible rfl)
            try simp only [Act.put, List.setIfInBounds_toArray, List.set_cons_zero, List.set_cons_succ]
            refine takeL (i := 17) (v := undef) rfl (by kernel_rfl) (by kernel_rfl) (by kernel_rfl) (fun _ _ _ h => h) (Or.inr ⟨by rfl, rfl⟩) hHeld ?_
            try simp only [Act.put, List.setIfInBounds_toArray, List.set_cons_zero, List.set_cons_succ]
            refine takeL (i := 18) (v := undef) rfl (by kernel_rfl) (by kernel_rfl) (by kernel_rfl) (fun _ _ _ h => h) (Or.inr ⟨by rfl, rfl⟩) hHeld ?_
            try simp only [Act.put, List.setIfInBounds_toArray, List.set_cons_zero, List.set_cons_succ]
            refine takeL (i := 19) (v := undef) rfl (by kernel_rfl) (by kernel_rfl) (by kernel_rfl) (fun _ _ _ h => h) (Or.inr ⟨by rfl, rfl⟩) hHeld ?_
            try simp only [Act.put, List.setIfInBounds_toArray, List.set_cons_zero, List.set_cons_succ]
            refine takeL (i := 20) (v := undef) rfl (by kernel_rfl) (by kernel_rfl) (by kernel_rfl) (fun _ _ _ h => h) (Or.inr ⟨by rfl, rfl⟩) hHeld ?_
            try simp only [Act.put, List.setIfInBounds_toArray, List.set_cons_zero, List.set_cons_succ]
            refine takeL (i := 21) (v := undef) rfl (by kernel_rfl) (by kernel_rfl) (by kernel_rfl) (fun _ _ _ h => h) (Or.inr ⟨by rfl, rfl⟩) hHeld ?_
            try simp only [Act.put, List.setIfInBounds_toArray, List.set_cons_zero, List.set_cons_succ]
            refine takeL (i := 22) (v := ?_) rfl (by kernel_rfl) (by kernel_rfl) (by kernel_rfl) (fun _ _ _ h => h) (Or.inl ⟨by rfl, ?_⟩) hHeld ?_
            rotate_left
            focus (intro wq hSw; clear hSw; go_simp; try with_reducible rfl)
            try simp only [Act.put, List.setIfInBounds_toArray, List.set_cons_zero, List.set_cons_succ]
            refine takeL (i := 23) (v := ?_) rfl (by kernel_rfl) (by kernel_rfl) (by kernel_rfl) (fun _ _ _ h => h) (Or.inl ⟨by rfl, ?_⟩) hHeld ?_
            rotate_left
            focus (intro wq hSw; clear hSw; go_simp; try with_reducible rfl)
            try simp only [Act.put, List.setIfInBounds_toArray, List.set_cons_zero, List.set_cons_succ]
            refine wpAnyH_done (by kernel_rfl) ?_ _
            refine NoPanic.normal ?_
            try simp only [Exit.then]
            go_wp2_with fail
            go_ret
            exact ⟨rfl, hD5, (Turn.of_below [d, L] HW.out.2.2.2.2).trans (HR2.out.2.2.1.trans hHeld (fun x hx => .inl hx)) (fun x hx => .inl hx)⟩
          | true =>
            have hq := HQ2.out
            simp only [Bool.true_eq_false, if_false] at hq
            cases ok2 with
            | false =>
              rw [if_pos rfl] at hq
              subst hq
              refine region_turn [d, L] (by kernel_rfl) (fun wd hOd hHeld hSz => ?_)
              have HSz := Lib.hid hSz
              clear hSz
              refine takeL (i := 0) (v := ?_) rfl (by kernel_rfl) (by kernel_rfl) (by kernel_rfl) (fun _ _ _ h => h) (Or.inl ⟨by rfl, ?_⟩) hHeld ?_
              rotate_left
              focus (intro wq hSw; clear hSw; go_simp; try with_reducible rfl)
              try simp only [Act.put, List.setIfInBounds_toArray, List.set_cons_zero, List.set_cons_succ]
              refine takeL (i := 1) (v := ?_) rfl (by kernel_rfl) (by kernel_rfl) (by kernel_rfl) (fun _ _ _ h => h) (Or.inl ⟨by rfl, ?_⟩) hHeld ?_
              rotate_left
              focus (intro wq hSw; clear hSw; go_simp; try with_reducible rfl)
              try simp only [Act.put, List.setIfInBounds_toArray, List.set_cons_zero, List.set_cons_succ]
              refine takeL (i := 2) (v := ?_) rfl (by kernel_rfl) (by kernel_rfl) (by kernel_rfl) (fun _ _ _ h => h) (Or.inl ⟨by rfl, ?_⟩) hHeld ?_
              rotate_left
              focus (intro wq hSw; clear hSw; go_simp; try with_reducible rfl)
              try simp only [Act.put, List.setIfInBounds_toArray, List.set_cons_zero, List.set_cons_succ]
              refine takeL (i := 3) (v := ?_) rfl (by kernel_rfl) (by kernel_rfl) (by kernel_rfl) (fun _ _ _ h => h) (Or.inl ⟨by rfl, ?_⟩) hHeld ?_
              rotate_left
              focus (intro wq hSw; have zz := cell_turn HV0.out hSw HV.out.2.2.2.2.2.2.2; clear hSw; go_simp; try with_reducible rfl)
              try simp only [Act.put, List.setIfInBounds_toArray, List.set_cons_zero, List.set_cons_succ]
              refine wpAnyH_ready (rs := [4]) (by kernel_rfl) (by simp) ?_
              refine consL rfl (fun K hK => ?_) AllReadyH.nil
              go_simp
              refine (HS.out.1 _ (HR2.out.2.1.below hOd)).mono ?_
              rintro e w5 ⟨rfl, hD5, hT5⟩
              have hT5' := hHeld.trans hT5 (fun x hx => .inl hx)
              clear hT5
              refine hK.out _ _ hT5' (fun hHeld => ?_)
              clear hK K
              try simp only [Act.put, List.setIfInBounds_toArray, List.set_cons_zero, List.set_cons_succ]
              refine takeL (i := 5) (v := ?_) rfl (by kernel_rfl) (by kernel_rfl) (by kernel_rfl) (fun _ _ _ h => h) (Or.inl ⟨by rfl, ?_⟩) hHeld ?_
              rotate_left
              focus (intro wq hSw; clear hSw; go_simp; try with_reducible rfl)
              try simp only [Act.put, List.setIfInBounds_toArray, List.set_cons_zero, List.set_cons_succ]
              refine takeL (i := 6) (v := ?_) rfl (by kernel_rfl) (by kernel_rfl) (by kernel_rfl) (fun _ _ _ h => h) (Or.inl ⟨by rfl, ?_⟩) hHeld ?_
              rotate_left
              focus (intro wq hSw; clear hSw; go_simp; try with_reducible rfl)
              try simp only [Act.put, List.setIfInBounds_toArray, List.set_cons_zero, List.set_cons_succ]
              refine takeL (i := 7) (v := ?_) rfl (by kernel_rfl) (by kernel_rfl) (by kernel_rfl) (fun _ _ _ h => h) (Or.inl ⟨by rfl, ?_⟩) hHeld ?_
              rotate_left
              focus (intro wq hSw; clear hSw; go_simp; try with_reducible rfl)
              try simp only [Act.put, List.setIfInBounds_toArray, List.set_cons_zero, List.set_cons_succ]
              refine takeL (i := 8) (v := ?_) rfl (by kernel_rfl) (by kernel_rfl) (by kernel_rfl) (fun _ _ _ h => h) (Or.inl ⟨by rfl, ?_⟩) hHeld ?_
              rotate_left
              focus (intro wq hSw; clear hSw; go_simp; try with_reducible rfl)
              try simp only [Act.put, List.setIfInBounds_toArray, List.set_cons_zero, List.set_cons_succ]
              refine takeL (i := 9) (v := ?_) rfl (by kernel_rfl) (by kernel_rfl) (by kernel_rfl) (fun _ _ _ h => h) (Or.inl ⟨by rfl, ?_⟩) hHeld ?_
              rotate_left
              focus (intro wq hSw; have zz := cell_turn HV0.out hSw HV.out.2.2.2.2.2.2.2; clear hSw; go_simp; try with_reducible rfl)
              try simp only [Act.put, List.setIfInBounds_toArray, List.set_cons_zero, List.set_cons_succ]
              refine takeL (i := 10) (v := ?_) rfl (by kernel_rfl) (by kernel_rfl) (by kernel_rfl) (fun _ _ _ h => h) (Or.inl ⟨by rfl, ?_⟩) hHeld ?_
              rotate_left
              focus (intro wq hSw; clear hSw; go_simp; try with_reducible rfl)
              try simp only [Act.put, List.setIfInBounds_toArray, List.set_cons_zero, List.set_cons_succ]
              refine takeL (i := 11) (v := ?_) rfl (by kernel_rfl) (by kernel_rfl) (by kernel_rfl) (fun _ _ _ h => h) (Or.inl ⟨by rfl, ?_⟩) hHeld ?_
              rotate_left
              focus (intro wq hSw; clear hSw; go_simp; try with_reducible rfl)
              try simp only [Act.put, List.setIfInBounds_toArray, List.set_cons_zero, List.set_cons_succ]
              refine takeL (i := 12) (v := ?_) rfl (by kernel_rfl) (by kernel_rfl) (by kernel_rfl) (fun _ _ _ h => h) (Or.inl ⟨by rfl, ?_⟩) hHeld ?_
              rotate_left
              focus (intro wq hSw; clear hSw; go_simp; try with_reducible rfl)
              try simp only [Act.put, List.setIfInBounds_toArray, List.set_cons_zero, List.set_cons_succ]
              refine wpAnyH_ready (rs := [13]) (by kernel_rfl) (by simp) ?_
              refine consL rfl (fun K hK => ?_) AllReadyH.nil
              go_simp
              have hK5 : KAt w5 := (KAt.beside HW.out.2.2.2.1 HW.out.2.2.1 HR2.out.2.2.1).beside HR2.out.2.1 hHeld
              refine (HS.out.2.1 w5 hK5).mono ?_
              rintro e w6 ⟨A6, n6, c6, rfl, hO6, hb6⟩
              obtain rfl : n6 = 256 := by have := hO6.len; rw [headB_len] at this; exact this
              obtain ⟨b6, off6, rfl, hat6⟩ := hO6.rd.addr (by omega)
              have hT6' := hHeld.trans (Turn.of_below [d, L] hb6) (fun x hx => .inl hx)
              refine hK.out _ _ hT6' (fun hHeld => ?_)
              clear hK K
              try simp only [Act.put, List.setIfInBounds_toArray, List.set_cons_zero, List.set_cons_succ]
              refine wpAnyH_ready (rs := [14]) (by kernel_rfl) (by simp) ?_
              refine consL rfl (fun K hK => ?_) AllReadyH.nil
              go_simp
              refine (HS.out.2.2.1 _ b6 off6 c6 (hD5.below hb6) hat6).mono ?_
              rintro e w7 ⟨rfl, hD7, hT7⟩
              have hT7' := hHeld.trans hT7 (fun x hx => .inl hx)
              clear hT7
              refine hK.out _ _ hT7' (fun hHeld => ?_)
              clear hK K
              try simp only [Act.put, List.setIfInBounds_toArray, List.set_cons_zero, List.set_cons_succ]
              refine takeL (i := 15) (v := ?_) rfl (by kernel_rfl) (by kernel_rfl) (by kernel_rfl) (fun _ _ _ h => h) (Or.inl ⟨by rfl, ?_⟩) hHeld ?_
              rotate_left
              focus (intro wq hSw; clear hSw; go_simp; try with_reducible rfl)
              try simp only [Act.put, List.setIfInBounds_toArray, List.set_cons_zero, List.set_cons_succ]
              refine takeL (i := 16) (v := ?_) rfl (by kernel_rfl) (by kernel_rfl) (by kernel_rfl) (fun _ _ _ h => h) (Or.inl ⟨by rfl, ?_⟩) hHeld ?_
              rotate_left
              focus (intro wq hSw; clear hSw; go_simp; try with_reducible rfl)
              try simp only [Act.put, List.setIfInBounds_toArray, List.set_cons_zero, List.set_cons_succ]
              refine takeL (i := 17) (v := undef) rfl (by kernel_rfl) (by kernel_rfl) (by kernel_rfl) (fun _ _ _ h => h) (Or.inr ⟨by rfl, rfl⟩) hHeld ?_
              try simp only [Act.put, List.setIfInBounds_toArray, List.set_cons_zero, List.set_cons_succ]
              refine takeL (i := 18) (v := undef) rfl (by kernel_rfl) (by kernel_rfl) (by kernel_rfl) (fun _ _ _ h => h) (Or.inr ⟨by rfl, rfl⟩) hHeld ?_
              try simp only [Act.put, List.setIfInBounds_toArray, List.set_cons_zero, List.set_cons_succ]
              refine takeL (i := 19) (v := undef) rfl (by kernel_rfl) (by kernel_rfl) (by kernel_rfl) (fun _ _ _ h => h) (Or.inr ⟨by rfl, rfl⟩) hHeld ?_
              try simp only [Act.put, List.setIfInBounds_toArray, List.set_cons_zero, List.set_cons_succ]
              refine takeL (i := 20) (v := undef) rfl (by kernel_rfl) (by kernel_rfl) (by kernel_rfl) (fun _ _ _ h => h) (Or.inr ⟨by rfl, rfl⟩) hHeld ?_
              try simp only [Act.put, List.setIfInBounds_toArray, List.set_cons_zero, List.set_cons_succ]
              refine takeL (i := 21) (v := undef) rfl (by kernel_rfl) (by kernel_rfl) (by kernel_rfl) (fun _ _ _ h => h) (Or.inr ⟨by rfl, rfl⟩) hHeld ?_
              try simp only [Act.put, List.setIfInBounds_toArray, List.set_cons_zero, List.set_cons_succ]
              refine takeL (i := 22) (v := ?_) rfl (by kernel_rfl) (by kernel_rfl) (by kernel_rfl) (fun _ _ _ h => h) (Or.inl ⟨by rfl, ?_⟩) hHeld ?_
              rotate_left
              focus (intro wq hSw; clear hSw; go_simp; try with_reducible rfl)
              try simp only [Act.put, List.setIfInBounds_toArray, List.set_cons_zero, List.set_cons_succ]
              refine takeL (i := 23) (v := ?_) rfl (by kernel_rfl) (by kernel_rfl) (by kernel_rfl) (fun _ _ _ h => h) (Or.inl ⟨by rfl, ?_⟩) hHeld ?_
              rotate_left
              focus (intro wq hSw; clear hSw; go_simp; try with_reducible rfl)
              try simp only [Act.put, List.setIfInBounds_toArray, List.set_cons_zero, List.set_cons_succ]
              refine wpAnyH_done (by kernel_rfl) ?_ _
              refine NoPanic.normal ?_
              try simp only [Exit.then]
              go_wp2_with fail
              go_ret
              exact ⟨rfl, hD7, (Turn.of_below [d, L] HW.out.2.2.2.2).trans (HR2.out.2.2.1.trans hHeld (fun x hx => .inl hx)) (fun x hx => .inl hx)⟩
            | true =>
              simp only [Bool.true_eq_false, if_false] at hq
              subst hq
              refine region_turn [d, L] (by kernel_rfl) (fun wd hOd hHeld hSz => ?_)
              have HSz := Lib.hid hSz
              clear hSz
              refine takeL (i := 0) (v := ?_) rfl (by kernel_rfl) (by kernel_rfl) (by kernel_rfl) (fun _ _ _ h => h) (Or.inl ⟨by rfl, ?_⟩) hHeld ?_
              rotate_left
              focus (intro wq hSw; clear hSw; go_simp; try with_reducible rfl)
              try simp only [Act.put, List.setIfInBounds_toArray, List.set_cons_zero, List.set_cons_succ]
              refine takeL (i := 1) (v := ?_) rfl (by kernel_rfl) (by kernel_rfl) (by kernel_rfl) (fun _ _ _ h => h) (Or.inl ⟨by rfl, ?_⟩) hHeld ?_
              rotate_left
              focus (intro wq hSw; clear hSw; go_simp; try with_reducible rfl)
              try simp only [Act.put, List.setIfInBounds_toArray, List.set_cons_zero, List.set_cons_succ]
              refine takeL (i := 2) (v := ?_) rfl (by kernel_rfl) (by kernel_rfl) (by kernel_rfl) (fun _ _ _ h => h) (Or.inl ⟨by rfl, ?_⟩) hHeld ?_
              rotate_left
              focus (intro wq hSw; clear hSw; go_simp; try with_reducible rfl)
              try simp only [Act.put, List.setIfInBounds_toArray, List.set_cons_zero, List.set_cons_succ]
              refine takeL (i := 3) (v := ?_) rfl (by kernel_rfl) (by kernel_rfl) (by kernel_rfl) (fun _ _ _ h => h) (Or.inl ⟨by rfl, ?_⟩) hHeld ?_
              rotate_left
              focus (intro wq hSw; have zz := cell_turn HV0.out hSw HV.out.2.2.2.2.2.2.2; clear hSw; go_simp; try with_reducible rfl)
              try simp only [Act.put, List.setIfInBounds_toArray, List.set_cons_zero, List.set_cons_succ]
              refine wpAnyH_ready (rs := [4]) (by kernel_rfl) (by simp) ?_
              refine consL rfl (fun K hK => ?_) AllReadyH.nil
              go_simp
              refine (HS.out.1 _ (HR2.out.2.1.below hOd)).mono ?_
              rintro e w5 ⟨rfl, hD5, hT5⟩
              have hT5' := hHeld.trans hT5 (fun x hx => .inl hx)
              clear hT5
              refine hK.out _ _ hT5' (fun hHeld => ?_)
              clear hK K
              try simp only [Act.put, List.setIfInBounds_toArray, List.set_cons_zero, List.set_cons_succ]
              refine takeL (i := 5) (v := ?_) rfl (by kernel_rfl) (by kernel_rfl) (by kernel_rfl) (fun _ _ _ h => h) (Or.inl ⟨by rfl, ?_⟩) hHeld ?_
              rotate_left
              focus (intro wq hSw; clear hSw; go_simp; try with_reducible rfl)
              try simp only [Act.put, List.setIfInBounds_toArray, List.set_cons_zero, List.set_cons_succ]
              refine takeL (i := 6) (v := ?_) rfl (by kernel_rfl) (by kernel_rfl) (by kernel_rfl) (fun _ _ _ h => h) (Or.inl ⟨by rfl, ?_⟩) hHeld ?_
              rotate_left
              focus (intro wq hSw; clear hSw; go_simp; try with_reducible rfl)
              try simp only [Act.put, List.setIfInBounds_toArray, List.set_cons_zero, List.set_cons_succ]
              refine takeL (i := 7) (v := ?_) rfl (by kernel_rfl) (by kernel_rfl) (by kernel_rfl) (fun _ _ _ h => h) (Or.inl ⟨by rfl, ?_⟩) hHeld ?_
              rotate_left
              focus (intro wq hSw; clear hSw; go_simp; try with_reducible rfl)
              try simp only [Act.put, List.setIfInBounds_toArray, List.set_cons_zero, List.set_cons_succ]
              refine takeL (i := 8) (v := ?_) rfl (by kernel_rfl) (by kernel_rfl) (by kernel_rfl) (fun _ _ _ h => h) (Or.inl ⟨by rfl, ?_⟩) hHeld ?_
              rotate_left
              focus (intro wq hSw; clear hSw; go_simp; try with_reducible rfl)
              try simp only [Act.put, List.setIfInBounds_toArray, List.set_cons_zero, List.set_cons_succ]
              refine takeL (i := 9) (v := ?_) rfl (by kernel_rfl) (by kernel_rfl) (by kernel_rfl) (fun _ _ _ h => h) (Or.inl ⟨by rfl, ?_⟩) hHeld ?_
              rotate_left
              focus (intro wq hSw; have zz := cell_turn HV0.out hSw HV.out.2.2.2.2.2.2.2; clear hSw; go_simp; try with_reducible rfl)
              try simp only [Act.put, List.setIfInBounds_toArray, List.set_cons_zero, List.set_cons_succ]
              refine takeL (i := 10) (v := ?_) rfl (by kernel_rfl) (by kernel_rfl) (by kernel_rfl) (fun _ _ _ h => h) (Or.inl ⟨by rfl, ?_⟩) hHeld ?_
              rotate_left
              focus (intro wq hSw; clear hSw; go_simp; try with_reducible rfl)
              try simp only [Act.put, List.setIfInBounds_toArray, List.set_cons_zero, List.set_cons_succ]
              refine takeL (i := 11) (v := ?_) rfl (by kernel_rfl) (by kernel_rfl) (by kernel_rfl) (fun _ _ _ h => h) (Or.inl ⟨by rfl, ?_⟩) hHeld ?_
              rotate_left
              focus (intro wq hSw; clear hSw; go_simp; try with_reducible rfl)
              try simp only [Act.put, List.setIfInBounds_toArray, List.set_cons_zero, List.set_cons_succ]
              refine takeL (i := 12) (v := ?_) rfl (by kernel_rfl) (by kernel_rfl) (by kernel_rfl) (fun _ _ _ h => h) (Or.inl ⟨by rfl, ?_⟩) hHeld ?_
              rotate_left
              focus (intro wq hSw; clear hSw; go_simp; try with_reducible rfl)
              try simp only [Act.put, List.setIfInBounds_toArray, List.set_cons_zero, List.set_cons_succ]
              refine wpAnyH_ready (rs := [13]) (by kernel_rfl) (by simp) ?_
              refine consL rfl (fun K hK => ?_) AllReadyH.nil
              go_simp
              have hK5 : KAt w5 := (KAt.beside HW.out.2.2.2.1 HW.out.2.2.1 HR2.out.2.2.1).beside HR2.out.2.1 hHeld
              refine (HS.out.2.1 w5 hK5).mono ?_
              rintro e w6 ⟨A6, n6, c6, rfl, hO6, hb6⟩
              obtain rfl : n6 = 256 := by have := hO6.len; rw [headB_len] at this; exact this
              obtain ⟨b6, off6, rfl, hat6⟩ := hO6.rd.addr (by omega)
              have hT6' := hHeld.trans (Turn.of_below [d, L] hb6) (fun x hx => .inl hx)
              refine hK.out _ _ hT6' (fun hHeld => ?_)
              clear hK K
              try simp only [Act.put, List.setIfInBounds_toArray, List.set_cons_zero, List.set_cons_succ]
              refine wpAnyH_ready (rs := [14]) (by kernel_rfl) (by simp) ?_
              refine consL rfl (fun K hK => ?_) AllReadyH.nil
              go_simp
              refine (HS.out.2.2.1 _ b6 off6 c6 (hD5.below hb6) hat6).mono ?_
              rintro e w7 ⟨rfl, hD7, hT7⟩
              have hT7' := hHeld.trans hT7 (fun x hx => .inl hx)
              clear hT7
              refine hK.out _ _ hT7' (fun hHeld => ?_)
              clear hK K
              try simp only [Act.put, List.setIfInBounds_toArray, List.set_cons_zero, List.set_cons_succ]
              refine takeL (i := 15) (v := ?_) rfl (by kernel_rfl) (by kernel_rfl) (by kernel_rfl) (fun _ _ _ h => h) (Or.inl ⟨by rfl, ?_⟩) hHeld ?_
              rotate_left
              focus (intro wq hSw; clear hSw; go_simp; try with_reducible rfl)
              try simp only [Act.put, List.setIfInBounds_toArray, List.set_cons_zero, List.set_cons_succ]
              refine takeL (i := 16) (v := ?_) rfl (by kernel_rfl) (by kernel_rfl) (by kernel_rfl) (fun _ _ _ h => h) (Or.inl ⟨by rfl, ?_⟩) hHeld ?_
              rotate_left
              focus (intro wq hSw; clear hSw; go_simp; try with_reducible rfl)
              try simp only [Act.put, List.setIfInBounds_toArray, List.set_cons_zero, List.set_cons_succ]
              refine takeL (i := 17) (v := ?_) rfl (by kernel_rfl) (by kernel_rfl) (by kernel_rfl) (fun _ _ _ h => h) (Or.inl ⟨by rfl, ?_⟩) hHeld ?_
              rotate_left
              focus (intro wq hSw; clear hSw; go_simp; try with_reducible rfl)
              try simp only [Act.put, List.setIfInBounds_toArray, List.set_cons_zero, List.set_cons_succ]
              refine takeL (i := 18) (v := ?_) rfl (by kernel_rfl) (by kernel_rfl) (by kernel_rfl) (fun _ _ _ h => h) (Or.inl ⟨by rfl, ?_⟩) hHeld ?_
              rotate_left
              focus (intro wq hSw; clear hSw; go_simp; try with_reducible rfl)
              try simp only [Act.put, List.setIfInBounds_toArray, List.set_cons_zero, List.set_cons_succ]
              refine takeL (i := 19) (v := ?_) rfl (by kernel_rfl) (by kernel_rfl) (by kernel_rfl) (fun _ _ _ h => h) (Or.inl ⟨by rfl, ?_⟩) hHeld ?_
              rotate_left
              focus (intro wq hSw; clear hSw; go_simp; try with_reducible rfl)
              try simp only [Act.put, List.setIfInBounds_toArray, List.set_cons_zero, List.set_cons_succ]
              refine takeL (i := 20) (v := ?_) rfl (by kernel_rfl) (by kernel_rfl) (by kernel_rfl) (fun _ _ _ h => h) (Or.inl ⟨by rfl, ?_⟩) hHeld ?_
              rotate_left
              focus (intro wq hSw; have zz := cell_turn HV0.out hSw HV.out.2.2.2.2.2.2.2; clear hSw; go_simp; try with_reducible rfl)
              try simp only [Act.put, List.setIfInBounds_toArray, List.set_cons_zero, List.set_cons_succ]
              refine wpAnyH_ready (rs := [21]) (by kernel_rfl) (by simp) ?_
              refine consL rfl (fun K hK => ?_) AllReadyH.nil
              go_simp
              refine (HS.out.2.2.2 _ hD7).mono ?_
              rintro e w8 ⟨rfl, hD8, hT8⟩
              have hT8' := hHeld.trans hT8 (fun x hx => .inl hx)
              clear hT8
              refine hK.out _ _ hT8' (fun hHeld => ?_)
              clear hK K
              try simp only [Act.put, List.setIfInBounds_toArray, List.set_cons_zero, List.set_cons_succ]
              refine takeL (i := 22) (v := ?_) rfl (by kernel_rfl) (by kernel_rfl) (by kernel_rfl) (fun _ _ _ h => h) (Or.inl ⟨by rfl, ?_⟩) hHeld ?_
              rotate_left
              focus (intro wq hSw; clear hSw; go_simp; try with_reducible rfl)
              try simp only [Act.put, List.setIfInBounds_toArray, List.set_cons_zero, List.set_cons_succ]
              refine takeL (i := 23) (v := ?_) rfl (by kernel_rfl) (by kernel_rfl) (by kernel_rfl) (fun _ _ _ h => h) (Or.inl ⟨by rfl, ?_⟩) hHeld ?_
              rotate_left
              focus (intro wq hSw; clear hSw; go_simp; try with_reducible rfl)
              try simp only [Act.put, List.setIfInBounds_toArray, List.set_cons_zero, List.set_cons_succ]
              refine wpAnyH_done (by kernel_rfl) ?_ _
              refine NoPanic.normal ?_
              try simp only [Exit.then]
              go_wp2_with fail
              go_ret
              exact ⟨rfl, hD8, (Turn.of_below [d, L] HW.out.2.2.2.2).trans (HR2.out.2.2.1.trans hHeld (fun x hx => .inl hx)) (fun x hx => .inl hx)⟩
end Go.Proofs.YtomngfihaohgdaaDoor
namespace Go.Proofs.YtomngfihaohgdaaDoor
set_option maxRecDepth 100000
open Go.RowKit

theorem may_empty (v d B cm : Nat) (br : Bool) (A : Option Addr) (c : Nat) (w : World) (h : VolB w v d B cm br) (hB : B ≤ 1000) :
    Calls Tryd.prog 34 #[.pointer (some ⟨v, 0, none⟩), .slice A 0 c] w fun e w' => e = .returned (.bool true) ∧ w = w' := by
  have t1 : ¬ (B : Int) < 0 := by omega
  have t2 : decide ((B : Int) < 0) = false := decide_eq_false t1
  obtain ⟨c0, c1, c2, c3⟩ := h.cells
  clear h
  go_enter Tryd.func34, Tryd.ntmps34
  go_wp2_with fail
  clear c0 c1 c2 c3 t1 t2
  obtain ⟨w0, hw0⟩ : ∃ w0, w0 = w := ⟨_, rfl⟩
  subst hw0
  go_loopw [20] (fun i wr => i = .int .i64 0 ∧ w0 = wr) (fun i _ => 0)
  case atStart => exact ⟨rfl, rfl⟩
  case round =>
    obtain ⟨rfl, rfl⟩ := hrel
    go_wp2_with fail
    go_ret
    exact ⟨rfl, rfl⟩
theorem commit_nil (A : Option Addr) (n c : Nat) (w : World) :
    Calls Tryd.prog 17 #[.pointer none, .slice A n c] w fun e w' => e = .returned (.int .i64 7) ∧ w = w' := by
  have h1 := may_nil A n c w
  go_enter Tryd.func17, Tryd.ntmps17
  go_wp2_with fail
  refine h1.mono ?_
  rintro e w' ⟨rfl, rfl⟩
  go_wp2_with fail
  go_ret
  exact ⟨rfl, rfl⟩
theorem commit_many (v d B cm : Nat) (br : Bool) (A : Option Addr) (n c : Nat) (w : World) (h : VolB w v d B cm br) (hn : B < n) :
    Calls Tryd.prog 17 #[.pointer (some ⟨v, 0, none⟩), .slice A n c] w fun e w' => e = .returned (.int .i64 7) ∧ w = w' := by
  have h1 := may_many v d B cm br A n c w h hn
  go_enter Tryd.func17, Tryd.ntmps17
  go_wp2_with fail
  refine h1.mono ?_
  rintro e w' ⟨rfl, rfl⟩
  go_wp2_with fail
  go_ret
  exact ⟨rfl, rfl⟩
theorem commit_empty (v d B cm : Nat) (br : Bool) (A : Option Addr) (c : Nat) (w : World) (h : VolB w v d B cm br) (hB : B ≤ 1000) :
    Calls Tryd.prog 17 #[.pointer (some ⟨v, 0, none⟩), .slice A 0 c] w fun e w' => e = .returned (.int .i64 0) ∧ w = w' := by
  have h1 := may_empty v d B cm br A c w h hB
  go_enter Tryd.func17, Tryd.ntmps17
  go_wp2_with fail
  refine h1.mono ?_
  rintro e w' ⟨rfl, rfl⟩
  go_wp2_with fail
  go_ret
  exact ⟨rfl, rfl⟩
theorem commit_bad (v d B cm : Nat) (br : Bool) (P c : Nat) (ps : List PutV) (w : World) (h : VolB w v d B cm br) (hP : PutsAt w P ps) (hB : B ≤ 1000) (hm : mayP B ps = false) :
    Calls Tryd.prog 17 #[.pointer (some ⟨v, 0, none⟩), .slice (some ⟨P, 0, none⟩) ps.length c] w fun e w' => e = .returned (.int .i64 7) ∧ Old w w' := by
  by_cases hn : ps.length ≤ B
  · have h1 := may_any v d B cm br P c ps w h hP hn hB
    rw [hm] at h1
    go_enter Tryd.func17, Tryd.ntmps17
    go_wp2_with fail
    refine h1.mono ?_
    rintro e w' ⟨rfl, hO⟩
    go_wp2_with fail
    go_ret
    exact ⟨rfl, hO⟩
  · refine (commit_many v d B cm br (some ⟨P, 0, none⟩) ps.length c w h (by omega)).mono ?_
    rintro e w' ⟨rfl, rfl⟩
    exact ⟨rfl, Old.refl _⟩
theorem commit_any (v d L B c k P cp : Nat) (ps : List PutV) (s : Dsk) (m : List (List UInt8)) (w : World) (hV : VolB w v d B c false) (hD : DkAt w d L s) (hK : KAt w) (hP : PutsAt w P ps)
    (hne : ∀ p ∈ ps, ∀ ad, p.A = some ad → ad.block ∉ [d, L]) (hm : mayP B ps = true) (hB : (s.n - 8) / 2 = B) (hn16 : 16 ≤ s.n) (hn2 : s.n ≤ 1000) (hc : c < 10000) (hf : FOk s k) (hk : k < 10000)
    (hml : m.length = B) (hside : ∀ i b, m[i]? = some b → Cl s (8 + c % 2 * B + i) b) (h0 : 0 < ps.length) :
    Calls Tryd.prog 17 #[.pointer (some ⟨v, 0, none⟩), .slice (some ⟨P, 0, none⟩) ps.length cp] w fun e w' =>
      e = .returned (.int .i64 (if (s.turnW headB c (after m (ps.map toPut))).1 = true then 0 else 48)) ∧ DkAt w' d L (s.turnW headB c (after m (ps.map toPut))).2 ∧
      VolB w' v d B (if (s.turnW headB c (after m (ps.map toPut))).1 = true then c + 1 else c) (!(s.turnW headB c (after m (ps.map toPut))).1) ∧ Turn [d, L, v] w w' := by
  have hnB : ps.length ≤ B := by
    unfold mayP at hm
    rw [Bool.and_eq_true, decide_eq_true_iff] at hm
    exact hm.1
  have h1 := may_any v d B c false P cp ps w hV hP hnB (by omega)
  rw [hm] at h1
  have hvd : v ∉ [d, L] := by
    obtain ⟨⟨cs, h1⟩, cs2, h2⟩ := hD.typed
    simp
    exact ⟨Blk.ne_ hV h1 (by decide), Blk.ne_ hV h2 (by decide)⟩
  have h2 : ∀ W, Old w W → Calls Tryd.prog 35 #[.pointer (some ⟨v, 0, none⟩), .slice (some ⟨P, 0, none⟩) ps.length cp] W fun e w' =>
      e = .returned (.bool (s.turnW headB c (after m (ps.map toPut))).1) ∧ DkAt w' d L (s.turnW headB c (after m (ps.map toPut))).2 ∧ Turn [d, L] W w' := fun W hO =>
    turn_any v d L B c k P cp false ps s m W (Blk.below hV hO) (hD.below hO) (hK.below hO) (hP.below hO) hne hm hB hn16 hn2 hc hf hk hml hside
  obtain ⟨q, hq⟩ : ∃ q, s.turnW headB c (after m (ps.map toPut)) = q := ⟨_, rfl⟩
  rw [hq] at h2 ⊢
  obtain ⟨N, hN⟩ : ∃ N, ps.length = N := ⟨_, rfl⟩
  rw [hN] at h1 h2 h0 ⊢
  have hN0 : ((N : Int) == 0) = false := by simp; omega
  have hN1 : ¬ (N : Int) = 0 := by omega
  obtain ⟨ok, sq⟩ := q
  simp only at h2 ⊢
  have H := Lib.hid (And.intro h2 (And.intro hV hvd))
  clear h2 hV hD hK hP hne hm hB hn16 hn2 hf hml hside hq hN hvd hnB
  go_enter Tryd.func17, Tryd.ntmps17
  go_wp2_with fail
  refine h1.mono ?_
  rintro e w1 ⟨rfl, hO⟩
  have hcs := VolB.cells (Blk.below H.out.2.1 hO)
  clear h1
  go_wp2_with fail
  refine (H.out.1 w1 hO).mono ?_
  rintro e w2 ⟨rfl, hD2, hT2⟩
  have hV2 : VolB w2 v d B c false := (Blk.below H.out.2.1 hO).turn hT2 H.out.2.2
  have hcs2 := VolB.cells hV2
  have hf2 := fun j => Blk.frozen hV2 j
  have HE := Lib.hid (And.intro hD2 (And.intro ((Turn.of_below [d, L] hO).trans hT2 (fun x hx => .inl hx)) hV2))
  clear hcs hD2 hT2 hV2
  have fin : ∀ (z : Value) (j : Nat), Turn [d, L, v] w (w2.setCell ⟨v, j, none⟩ z) ∧ DkAt (w2.setCell ⟨v, j, none⟩ z) d L sq := fun z j => by
    have ht : Turn [v] w2 (w2.setCell ⟨v, j, none⟩ z) := (Turn.refl _ _).setCell (.inl (by simp)) _
    obtain ⟨⟨cs, b1⟩, cs2, b2⟩ := HE.out.1.typed
    refine ⟨(HE.out.2.1.more (by simp)).trans (ht.more (S' := [d, L, v]) (by simp)) (fun x hx => .inl hx), HE.out.1.turn' ht (by simp; exact fun e => H.out.2.2 (by simp [e])) (by simp; exact fun e => H.out.2.2 (by simp [e])) (fun t h => by simp at h; subst h; exact Blk.noRow HE.out.2.2 (by decide))⟩
  have HF := Lib.hid fin
  clear fin
  cases ok with
  | false =>
    go_wp2_with fail
    go_ret
    refine ⟨rfl, (HF.out _ 3).2, ?_, (HF.out _ 3).1⟩
    have := Blk.set_ HE.out.2.2 3 (.bool true)
    simpa [VolB] using this
  | true =>
    have g1 : IntKind.i64.wrap ((c : Int) + 1) = (c : Int) + 1 := IntWalk.i64_in _ (by omega)
    go_wp2_with fail
    go_ret
    refine ⟨rfl, (HF.out _ 2).2, ?_, (HF.out _ 2).1⟩
    have := Blk.set_ HE.out.2.2 2 (.int .i64 ((c : Int) + 1))
    simpa [VolB] using this
end Go.Proofs.YtomngfihaohgdaaDoor
namespace Go.Proofs.YtomngfihaohgdaaDoor
set_option maxRecDepth 100000
open Go.RowKit

/-- A device of zeros. -/
def ZeroD (s : Dsk) : Prop := ∀ i, i < s.n → Cl s i (zs 256)
theorem zeroD_new (n : Nat) : ZeroD (Dsk.new n) := by
  intro i hi
  have hi' : i < n := by unfold Dsk.n Dsk.new at hi; simpa using hi
  unfold Cl Dsk.rd Dsk.srd Dsk.new
  simp [hi', Sec.read, Sec.sread]
theorem new_n (n : Nat) : (Dsk.new n).n = n := by unfold Dsk.n Dsk.new; simp
theorem new_fok (n : Nat) : FOk (Dsk.new n) 0 := ⟨fun h => (nomatch h), (show (0 : Int) ≤ 1000 by decide), Nat.le_refl _⟩
theorem good_fmt {s : Dsk} (h16 : 16 ≤ s.n) (h60 : s.n ≤ 1000) (h0 : Cl s 0 (headB 0)) (hz : ∀ j, j < s.n → j ≠ 0 → Cl s j (zs 256)) : Good headB s 0 (List.replicate ((s.n - 8) / 2) (zs 256)) := by
  refine ⟨h16, h60, List.length_replicate, h0, ⟨zs 256, hz 1 (by omega) (by omega), .inl rfl⟩, fun i b hi => ?_⟩
  rw [List.getElem?_replicate] at hi
  split at hi
  · injection hi with hi
    subst hi
    exact hz _ (by omega) (by omega)
  · cases hi
theorem fmt_cases {s s' : Dsk} {ok : Bool} (hz : ZeroD s) (h16 : 16 ≤ s.n) (h60 : s.n ≤ 1000) (h : s.fmt = (ok, s')) :
    s'.n = s.n ∧ (ok = true → Good headB s' 0 (List.replicate ((s.n - 8) / 2) (zs 256))) ∧
    (ok = false → ∀ kp, ZeroD (s'.crash kp) ∨ Good headB (s'.crash kp) 0 (List.replicate ((s.n - 8) / 2) (zs 256))) ∧
    (s.fused = false → s.dead = false → ok = true ∧ s'.dead = false ∧ s'.fused = false) := by
  have zc : ∀ t : Dsk, ZeroD t → ∀ kp, ZeroD (t.crash kp) := fun t ht kp i hi => crash_cl (ht i (by rwa [crash_n] at hi)) kp
  have zy : ∀ t : Dsk, ZeroD t → ZeroD t.sy.2 := fun t ht i hi => sy_cl (ht i (by rwa [(sy_did t).n] at hi))
  unfold Dsk.fmt at h
  have d1 := sy_did s
  have z1 := zy s hz
  obtain ⟨o1, s1, e1⟩ : ∃ o1 s1, s.sy = (o1, s1) := ⟨_, _, rfl⟩
  rw [e1] at h d1 z1
  simp only at h d1 z1
  cases o1 with
  | false =>
    rw [if_pos rfl] at h
    injection h with ha hb
    subst ha hb
    exact ⟨d1.n, (fun h => by cases h), fun _ kp => .inl (zc _ z1 kp), fun h1 h2 => by have := (d1.alive h1 h2).2; cases this⟩
  | true =>
  simp only [Bool.true_eq_false, if_false] at h
  have d2 := d1.trans (sy_did s1)
  have z2 := zy s1 z1
  obtain ⟨o2, s2, e2⟩ : ∃ o2 s2, s1.sy = (o2, s2) := ⟨_, _, rfl⟩
  rw [e2] at h d2 z2
  simp only at h d2 z2
  cases o2 with
  | false =>
    rw [if_pos rfl] at h
    injection h with ha hb
    subst ha hb
    exact ⟨d2.n, (fun h => by cases h), fun _ kp => .inl (zc _ z2 kp), fun h1 h2 => by have := (d2.alive h1 h2).2; cases this⟩
  | true =>
  simp only [Bool.true_eq_false, if_false] at h
  have hn2 := d2.n
  have d3 := d2.trans (wr_did s2 0 (headB 0))
  have c3 : ∀ j, j < s2.n → j ≠ 0 → Cl (s2.wr 0 (headB 0)).2 j (zs 256) := fun j hj hj0 => wr_cl (z2 j hj) (by omega) (by omega)
  have r3 := wr_rd (s := s2) (i := 0) (j := 0) (l := headB 0) (by omega)
  have y3 := wr_srd (s := s2) (i := 0) (j := 0) (l := headB 0)
  have n3 : (s2.wr 0 (headB 0)).1 = false → ZeroD (s2.wr 0 (headB 0)).2 := fun hf => by
    unfold Dsk.wr at hf ⊢
    split
    · exact z2
    · rename_i hd; rw [if_neg hd] at hf; cases hf
  obtain ⟨o3, s3, e3⟩ : ∃ o3 s3, s2.wr 0 (headB 0) = (o3, s3) := ⟨_, _, rfl⟩
  rw [e3] at h d3 c3 r3 y3 n3
  simp only at h d3 c3 r3 y3 n3
  cases o3 with
  | false =>
    rw [if_pos rfl] at h
    injection h with ha hb
    subst ha hb
    exact ⟨d3.n, (fun h => by cases h), fun _ kp => .inl (zc _ (n3 rfl) kp), fun h1 h2 => by have := (d3.alive h1 h2).2; cases this⟩
  | true =>
  simp only [Bool.true_eq_false, if_false] at h
  have r3' := r3 rfl
  simp only [if_true] at r3'
  rw [(z2 0 (by omega)).2] at y3
  have d4 := d3.trans (sy_did s3)
  have hn3 := d3.n
  have c4 : ∀ j, j < s2.n → j ≠ 0 → Cl s3.sy.2 j (zs 256) := fun j hj hj0 => sy_cl (c3 j hj hj0)
  have h4 := fun hok => sy_cl_of (s := s3) (j := 0) r3' hok
  have q4 : s3.sy.1 = false → s3.sy.2 = s3 := fun hf => by
    unfold Dsk.sy at hf ⊢
    split
    · rfl
    · rename_i hd; rw [if_neg hd] at hf; cases hf
  rw [h] at d4 c4 h4 q4
  simp only at d4 c4 h4 q4
  refine ⟨d4.n, fun hok => ?_, fun hok kp => ?_, fun h1 h2 => ?_⟩
  · rw [← d4.n]
    exact good_fmt (by rw [d4.n]; omega) (by rw [d4.n]; omega) (h4 hok) (fun j hj hj0 => c4 j (by rw [d4.n] at hj; omega) hj0)
  · rw [q4 hok] at c4 ⊢
    obtain ⟨l, hl, hl2 | hl2⟩ := crash_rd s3 kp 0
    · right
      rw [r3'] at hl2
      rw [hl2] at hl
      have hnn : (s3.crash kp).n = s.n := by rw [crash_n, hn3]
      rw [← hnn]
      exact good_fmt (by omega) (by omega) hl (fun j hj hj0 => crash_cl (c4 j (by omega) hj0) kp)
    · left
      rw [y3] at hl2
      rw [hl2] at hl
      intro i hi
      rw [crash_n, hn3] at hi
      by_cases hi0 : i = 0
      · subst hi0; exact hl
      · exact crash_cl (c4 i (by omega) hi0) kp
  · exact ⟨(d4.alive h1 h2).2, (d4.alive h1 h2).1, d4.fused.trans h1⟩
theorem good_heads {s : Dsk} {c : Nat} {m : List (List UInt8)} (h : Good headB s c m) (hc : c < 1000000) : ∃ cl, (∀ k, k < 2 → HeadIs s k (cl k)) ∧ best cl 2 = (c : Int) := by
  obtain ⟨l, h2a, h2b⟩ := h.h2
  obtain ⟨ot, ho1, ho2⟩ : ∃ ot, HeadIs s ((c + 1) % 2) ot ∧ (ot = none ∨ ∃ c', ot = some c' ∧ c' < c) := by
    rcases h2b with h2b | ⟨c', h3, h4, h5⟩
    · exact ⟨none, by unfold HeadIs; rw [h2a.1, h2b], .inl rfl⟩
    · exact ⟨some c', ⟨by omega, h4, by rw [h2a.1, h5]⟩, .inr ⟨c', rfl, h3⟩⟩
  refine ⟨fun k => if k = c % 2 then some c else ot, fun k hk => ?_, ?_⟩
  · by_cases he : k = c % 2
    · simp only [if_pos he]
      exact ⟨hc, he.symm, by rw [he]; exact h.h1.1⟩
    · simp only [if_neg he]
      rw [show k = (c + 1) % 2 by omega]
      exact ho1
  · unfold best best best
    rcases (show c % 2 = 0 ∨ c % 2 = 1 by omega) with h0 | h0
    · rw [h0]
      rcases ho2 with rfl | ⟨c', rfl, hl⟩ <;> simp <;> omega
    · rw [h0]
      rcases ho2 with rfl | ⟨c', rfl, hl⟩ <;> simp <;> omega
theorem zero_heads {s : Dsk} (hz : ZeroD s) (hn : 16 ≤ s.n) : ∀ k, k < 2 → HeadIs s k ((fun _ => none : Nat → Option Nat) k) := fun k hk => (hz k (by omega)).1
theorem mount_good (d L : Nat) (s : Dsk) (c : Nat) (m : List (List UInt8)) (w : World) (h : DkAt w d L s) (hg : Good headB s c m) (hc : c < 1000000) (hd : s.dead = false) (hK : KAt w) :
    Calls Tryd.prog 14 #[.pointer (some ⟨d, 0, none⟩)] w fun e w' =>
      ∃ v, e = .returned (.tuple #[.pointer (some ⟨v, 0, none⟩), .int .i64 0]) ∧ w.heap.size ≤ v ∧ VolB w' v d ((s.n - 8) / 2) c false ∧ Below w.heap.size w w' := by
  obtain ⟨cl, h1, h2⟩ := good_heads hg hc
  refine (mount_any d L s w h hg.n16 hg.n60 hd hK cl h1).mono ?_
  rintro e w' ⟨⟨h3, _⟩ | ⟨c', v, h3, h4, h5, h6⟩, hb⟩
  · omega
  · rw [h2] at h3
    have : c' = c := by omega
    subst this
    exact ⟨v, h4, h5, h6, hb⟩
theorem mount_zero (d L : Nat) (s : Dsk) (w : World) (h : DkAt w d L s) (hz : ZeroD s) (hn : 16 ≤ s.n) (hn2 : s.n ≤ 1000) (hd : s.dead = false) (hK : KAt w) :
    Calls Tryd.prog 14 #[.pointer (some ⟨d, 0, none⟩)] w fun e w' => e = .returned (.tuple #[.pointer none, .int .i64 5]) ∧ Below w.heap.size w w' := by
  refine (mount_any d L s w h hn hn2 hd hK _ (zero_heads hz hn)).mono ?_
  rintro e w' ⟨⟨h3, h4⟩ | ⟨c', v, h3, h4, h5, h6⟩, hb⟩
  · exact ⟨h4, hb⟩
  · have : best (fun _ => none) 2 = -1 := rfl
    rw [this] at h3
    omega
end Go.Proofs.YtomngfihaohgdaaDoor
namespace Go.Proofs.YtomngfihaohgdaaDoor
set_option maxRecDepth 100000
open Go.RowKit

theorem rd_oneX (w : World) (x : UInt8) (mk : Nat × Nat) : Rd (w.alloc (.cells #[.int .u8 x.toNat] 5 mk)) (some ⟨w.heap.size, 0, none⟩) 1 1 [x] := by
  refine ⟨rfl, Nat.le_refl _, by unfold maxLen; omega, .inr ⟨_, _, rfl, by simp, fun k y hk => ?_⟩⟩
  rw [World.cell?_alloc_mark]
  cases k with
  | zero => simp at hk; subst hk; rfl
  | succ k => simp at hk
def lX : List UInt8 := full [120] 256
theorem lX_len : lX.length = 256 := by unfold lX full; rw [if_neg (by omega), if_neg (by simp)]; exact fullTo_len _ _ _
theorem lX_9 : lX[9]? = some 120 := by decide
theorem neVol (w : World) (a : Addr) : (binOp .eql 25 (.pointer (some a)) (.pointer none)).run Tryd.prog w = .ok (.bool false) w := by kernel_rfl
theorem neVol' (w : World) (a : Addr) : (binOp .neq 25 (.pointer (some a)) (.pointer none)).run Tryd.prog w = .ok (.bool true) w := by kernel_rfl
theorem dk_lost {d L : Nat} {s : Dsk} {w : World} (h : DkAt w d L s) :
    Calls Tryd.prog 15 #[.pointer (some ⟨d, 0, none⟩), .nilFunc] w fun e w' =>
      ∃ d' L', e = .returned (.pointer (some ⟨d', 0, none⟩)) ∧ DkAt w' d' L' (s.crash fun _ => false) ∧ w.heap.size ≤ d' ∧ w.heap.size ≤ L' ∧ Below w.heap.size w w' := by
  obtain ⟨xs, h⟩ := h
  refine (crash_lost d L xs s w h).mono ?_
  rintro e w' ⟨rfl, ⟨ys, hy⟩, hb⟩
  exact ⟨_, _, rfl, ⟨ys, hy⟩, by omega, Nat.le_refl _, hb⟩
theorem fmt_fok {s : Dsk} {k : Nat} (h : FOk s k) : FOk s.fmt.2 (k + 4) := by
  have h1 := sy_fok h
  have h2 := sy_fok h1
  have h3 := wr_fok h2 0 (headB 0)
  have h4 := sy_fok h3
  unfold Dsk.fmt
  split
  · exact h1.mono (by omega)
  · split
    · exact h2.mono (by omega)
    · split
      · exact h3.mono (by omega)
      · exact h4
theorem one_put (w : World) (g P : Nat) (hP : Blk w P 42 #[.int .i64 3, .slice (some ⟨g, 0, none⟩) 256 256]) (hr : Rd w (some ⟨g, 0, none⟩) 256 256 lX) : PutsAt w P [⟨3, some ⟨g, 0, none⟩, 256, 256, lX⟩] := by
  refine ⟨fun k p hk => ?_, hP.lt⟩
  cases k with
  | zero =>
    simp at hk
    subst hk
    have c0 := hP.cell 0
    have c1 := hP.cell 1
    simp at c0 c1
    exact ⟨by simpa using c0, by simpa using c1, hr⟩
  | succ k => simp at hk
set_option maxHeartbeats 1000000 in
theorem begun_any (w : World) (hK : KAt w) : Calls Tryd.prog 9 #[] w fun e w' => e = .returned (.bool true) ∧ Below w.heap.size w w' := by
  have hN := new_in 32 (by omega) (by omega) w
  rw [show ((32 : Nat) : Int) = 32 from rfl] at hN
  have hkl := hK.1
  obtain ⟨X, hX⟩ : ∃ X, w.heap.size = X := ⟨_, rfl⟩
  rw [hX] at hN hkl
  have HK := Lib.hid hK
  clear hK
  go_enter Tryd.func9, Tryd.ntmps9
  go_wp2_with fail
  refine hN.mono ?_
  rintro e w1 ⟨rfl, hA1, hb1⟩
  obtain ⟨s0, hs0⟩ : ∃ s0, Dsk.new 32 = s0 := ⟨_, rfl⟩
  have hz0 := zeroD_new 32
  have hn0 := new_n 32
  have hf0 := new_fok 32
  have hu0 : (Dsk.new 32).fused = false ∧ (Dsk.new 32).dead = false := ⟨rfl, rfl⟩
  rw [hs0] at hA1 hz0 hn0 hf0 hu0
  obtain ⟨ok1, s1, hs1⟩ : ∃ ok1 s1, s0.fmt = (ok1, s1) := ⟨_, _, rfl⟩
  have hfc := fmt_cases hz0 (by omega) (by omega) hs1
  have hD1 : DkAt w1 (X + 1) X s0 := ⟨_, hA1⟩
  have hf1 := format_any (X + 1) X s0 w1 hD1 (by omega) (by omega) hu0.2 hf0 (fun i hi => (hz0 i hi).1) (HK.out.below (by rw [hX]; exact hb1))
  rw [hs1] at hf1
  obtain ⟨k1, k2, k3⟩ := hfc.2.2.2 hu0.1 hu0.2
  subst k1
  have hfk := fmt_fok hf0
  rw [hs1] at hfk
  have hg1 := hfc.2.1 rfl
  rw [hn0] at hg1
  have hn1 : s1.n = 32 := hfc.1.trans hn0
  simp only [if_true] at hf1
  have H1 := Lib.hid (And.intro hD1 (And.intro (HK.out.below (by rw [hX]; exact hb1)) (And.intro hb1 (And.intro hg1 (And.intro hn1 (And.intro k2 (And.intro k3 hfk)))))))
  clear hfk hN hA1 hb1 hs0 hz0 hn0 hf0 hu0 hs1 hfc hD1 k2 k3 hg1 hn1
  go_wp2_with fail
  refine hf1.mono ?_
  rintro e w2 ⟨rfl, hD2, hT2⟩
  have hK2 := H1.out.2.1.beside H1.out.1 hT2
  have hm2 := mount_good (X + 1) X s1 0 _ w2 hD2 H1.out.2.2.2.1 (by omega) H1.out.2.2.2.2.2.1 hK2
  rw [H1.out.2.2.2.2.1] at hm2
  have hb2 := below_turn H1.out.2.2.1 hT2 (by simp) (by have := H1.out.2.2.1.size; omega)
  have H2 := Lib.hid (And.intro hD2 (And.intro hK2 hb2))
  clear hf1 hD2 hT2 hK2 hb2
  go_wp2_with fail
  refine hm2.mono ?_
  rintro e w3 ⟨v, rfl, hv3, hV3, hb3⟩
  have hX2 := H2.out.2.2.size
  have H3 := Lib.hid (And.intro (H2.out.1.below hb3) (And.intro (H2.out.2.1.below hb3) (And.intro (H2.out.2.2.trans (hb3.mono (by rw [← hX]; exact hX2))) (And.intro hV3 (show X ≤ v by omega)))))
  clear hm2 hb3 hV3
  have kc := fun (w : World) (C : Array Value) (n c : Nat) => Lib.run_convert_bytes_const (P := Tryd.prog) w 40 5 C n c Tryd.underlying40 Tryd.underlying5
  have kv := neVol
  have kv' := neVol'
  go_wp2_with fail
  clear kv kc
  refine (full_any _ _ _ _ [120] _ (rd_oneX w3 120 (1, 2))).mono ?_
  rintro e w4 ⟨g, rfl, hO4, hb4⟩
  rw [show full [120] 256 = lX from rfl, lX_len] at hO4 ⊢
  have hb34 : Old w3 w4 := Below.trans ((Below.refl _ w3).alloc (Nat.le_refl _) _) (hb4.mono (by simp))
  have H4 := Lib.hid (And.intro hO4 hb34)
  clear hO4 hb4 hb34
  go_wp2_with fail
  obtain ⟨P, hP⟩ : ∃ P, w4.heap.size = P := ⟨_, rfl⟩
  obtain ⟨w5, hw5⟩ : ∃ w5, w4.alloc (.cells #[.int .i64 3, .slice (some ⟨g, 0, none⟩) 256 256] 42) = w5 := ⟨_, rfl⟩
  have hbP : Blk w5 P 42 #[.int .i64 3, .slice (some ⟨g, 0, none⟩) 256 256] := by rw [← hw5, ← hP]; exact Blk.new _ _ _
  have hO5 : Old w4 w5 := by rw [← hw5]; exact (Old.refl _).alloc _
  have hOw := H4.out.1.below hO5
  have h35 := Old.trans H4.out.2 hO5
  have hD5 := H3.out.1.below h35
  have hne := hOw.beside hD5
  have hG := H1.out.2.2.2.1
  have hcm := commit_any v (X + 1) X 12 0 4 P 1 [⟨3, some ⟨g, 0, none⟩, 256, 256, lX⟩] s1 (List.replicate 12 (zs 256)) w5 (Blk.below H3.out.2.2.2.1 h35) hD5 (H3.out.2.1.below h35) (one_put w5 g P hbP hOw.rd)
    (fun p hp ad had => by simp at hp; subst hp; simp at had; subst had; exact hne g rfl) (by unfold mayP okP; simp [lX_len]) (by rw [H1.out.2.2.2.2.1]) (by rw [H1.out.2.2.2.2.1]; omega) (by rw [H1.out.2.2.2.2.1]; omega) (by omega) H1.out.2.2.2.2.2.2.2 (by omega)
    List.length_replicate (fun i b hi => by have := hG.side i b hi; rw [H1.out.2.2.2.2.1] at this; exact this) (by simp)
  have hts := turn_spec (m2 := after (List.replicate 12 (zs 256)) [(3, lX)]) hG H1.out.2.2.2.2.2.2.2 (by rw [after_len, H1.out.2.2.2.2.1]; simp)
  obtain ⟨ok, s2, hs2⟩ : ∃ ok s2, s1.turnW headB 0 (after (List.replicate 12 (zs 256)) [(3, lX)]) = (ok, s2) := ⟨_, _, rfl⟩
  have hcm' : Calls Tryd.prog 17 #[.pointer (some ⟨v, 0, none⟩), .slice (some ⟨P, 0, none⟩) 1 1] w5 fun e w' =>
      e = .returned (.int .i64 (if (s1.turnW headB 0 (after (List.replicate 12 (zs 256)) [(3, lX)])).1 = true then 0 else 48)) ∧ DkAt w' (X + 1) X (s1.turnW headB 0 (after (List.replicate 12 (zs 256)) [(3, lX)])).2 ∧
      VolB w' v (X + 1) 12 (if (s1.turnW headB 0 (after (List.replicate 12 (zs 256)) [(3, lX)])).1 = true then 0 + 1 else 0) (!(s1.turnW headB 0 (after (List.replicate 12 (zs 256)) [(3, lX)])).1) ∧ Turn [X + 1, X, v] w5 w' := hcm
  rw [hs2] at hts hcm'
  obtain ⟨hdid, _, hgood, _⟩ := hts
  obtain ⟨a1, a2⟩ := hdid.alive H1.out.2.2.2.2.2.2.1 H1.out.2.2.2.2.2.1
  simp only at a1 a2 hgood hdid
  subst a2
  have hg2 := hgood rfl
  simp only [if_true] at hcm'
  have H5 := Lib.hid (And.intro (H3.out.2.1.below h35) (And.intro (H3.out.2.2.1.trans (h35.mono (by rw [← hX]; exact H3.out.2.2.1.size))) (And.intro hg2 (And.intro (hdid.n.trans H1.out.2.2.2.2.1) (And.intro hD5 (show X ≤ v from H3.out.2.2.2.2))))))
  rw [hP, hw5]
  clear hbP hO5 hOw h35 hD5 hne hG hcm hs2 hdid hgood hg2 hw5 hP
  go_wp2_with fail
  refine hcm'.mono ?_
  rintro e w6 ⟨rfl, hD6, _, hT6⟩
  have hK6 : KAt w6 := by
    have hk := H5.out.1
    have hvk : 0 ∉ [X + 1, X, v] := by have := H5.out.2.2.2.2.2; simp; omega
    exact hk.turn hT6 hvk
  have hb6 := below_turn H5.out.2.1 hT6 (by have := H5.out.2.2.2.2.2; simp; omega) (by rw [← hX]; exact (show w.heap.size ≤ w5.heap.size from by rw [hX]; have := H5.out.2.2.2.2.1.lt; omega))
  have hcr := dk_lost hD6
  have hg6 := (H5.out.2.2.1).crash (fun _ => false)
  have hn6 := crash_n s2 (fun _ => false)
  rw [H5.out.2.2.2.1] at hn6
  obtain ⟨s3, hs3⟩ : ∃ s3, s2.crash (fun _ => false) = s3 := ⟨_, rfl⟩
  rw [hs3] at hcr hg6 hn6
  have hdd : s3.dead = false := by rw [← hs3]; exact (crash_fresh s2 _).2.1
  have H6 := Lib.hid (And.intro hK6 (And.intro hb6 (And.intro hg6 (And.intro hn6 hdd))))
  clear hD6 hT6 hcm' hK6 hb6 hg6 hn6 hdd hs3
  go_wp2_with fail
  refine hcr.mono ?_
  rintro e w7 ⟨d', L', rfl, hD7, hd7, hL7, hb7⟩
  have hm7 := mount_good d' L' s3 1 _ w7 hD7 H6.out.2.2.1 (by omega) H6.out.2.2.2.2 (H6.out.1.below hb7)
  rw [H6.out.2.2.2.1] at hm7
  have hs6 := H6.out.2.1.size
  have H7 := Lib.hid (And.intro hD7 (H6.out.2.1.trans (hb7.mono (by rw [← hX]; exact hs6))))
  clear hcr hD7 hd7 hL7 hb7
  go_wp2_with fail
  refine hm7.mono ?_
  rintro e w8 ⟨u, rfl, hu8, hV8, hb8⟩
  have hs7 := H7.out.2.size
  have hrd : s3.rd 23 = lX := by
    have h3 : (after (List.replicate 12 (zs 256)) [(3, lX)])[3]? = some lX := by unfold after; simp
    have := (H6.out.2.2.1.side 3 lX h3).1
    rw [H6.out.2.2.2.1] at this
    exact this
  have hrdc : ∀ W, DkAt W d' L' s3 → VolB W u d' 12 1 false → Calls Tryd.prog 19 #[.pointer (some ⟨u, 0, none⟩), .int .i64 3] W fun e w' =>
      ∃ g c', e = .returned (.slice (some ⟨g, 0, none⟩) 256 c') ∧ Own w' W.heap.size (.slice (some ⟨g, 0, none⟩) 256 c') lX ∧ Below W.heap.size W w' := fun W hDW hVW => by
    refine (volread_any u d' L' 12 1 false s3 W hVW hDW (by omega) (by omega) (by rw [H6.out.2.2.2.1]; omega) 3 (by omega)).mono ?_
    rintro e w' ⟨g, c', h1, h2, _, h3⟩
    rw [show 8 + 1 % 2 * 12 + 3 = 23 from rfl, hrd] at h2
    exact ⟨g, c', h1, h2, h3⟩
  have H8 := Lib.hid (And.intro (H7.out.1.below hb8) (And.intro hV8 (And.intro hrdc (H7.out.2.trans (hb8.mono (by rw [← hX]; exact hs7))))))
  clear hm7 hV8 hb8 hrd hrdc
  go_wp2_with fail
  refine (H8.out.2.2.1 w8 H8.out.1 H8.out.2.1).mono ?_
  rintro e w9 ⟨g9, c9, rfl, hO9, hb9⟩
  have hs8 := H8.out.2.2.2.size
  have H9 := Lib.hid (And.intro (H8.out.1.below hb9) (And.intro (Blk.below H8.out.2.1 hb9) (H8.out.2.2.2.trans (hb9.mono (by rw [← hX]; exact hs8)))))
  clear hO9 hb9
  go_wp2_with fail
  refine (H8.out.2.2.1 w9 H9.out.1 H9.out.2.1).mono ?_
  rintro e w10 ⟨g10, c10, rfl, hO10, hb10⟩
  have hs9 := H9.out.2.2.size
  have hc10 := hO10.at_.cell (k := 9) (by rw [lX_len]; omega)
  have e9 : lX[9]'(by rw [lX_len]; omega) = 120 := by
    have h := lX_9
    rw [List.getElem?_eq_getElem (by rw [lX_len]; omega)] at h
    injection h
  rw [e9] at hc10
  simp only [B, Nat.zero_add] at hc10
  have hV10 : VolB w10 u d' 12 1 false := Blk.below H9.out.2.1 hb10
  have H10 := Lib.hid (And.intro hV10 (H9.out.2.2.trans (hb10.mono (by rw [← hX]; exact hs9))))
  have hco := commits_any u d' 12 1 false w10 hV10
  have hbl := blocks_any u d' 12 1 false w10 hV10
  rw [show ((1 : Nat) : Int) = 1 from rfl] at hco
  rw [show ((12 : Nat) : Int) = 12 from rfl] at hbl
  clear hO10 hb10 hV10
  go_wp2_with fail
  refine hco.mono ?_
  rintro e w11 ⟨rfl, rfl⟩
  go_wp2_with fail
  refine hbl.mono ?_
  rintro e w12 ⟨rfl, rfl⟩
  go_wp2_with fail
  go_ret
  exact ⟨rfl, by rw [hX]; exact H10.out.2⟩
end Go.Proofs.YtomngfihaohgdaaDoor
