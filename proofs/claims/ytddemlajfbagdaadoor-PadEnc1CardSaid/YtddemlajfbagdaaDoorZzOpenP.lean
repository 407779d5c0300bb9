/-
  Pad, the document: the second kind of padding.
  A range over a function that tells how far it went: behind its end the iterator's own word of it holds. Over any program.
  A slice of slices of bytes that came in: rows of bytes; a row of no room may lie anywhere.
-/
import Derived.Test.YtddemlajfbagdaaDoorPr7
import Derived.Test.YtddemlajfbagdaaDoorZzRange
import Derived.Test.YtddemlajfbagdaaDoorZzPd3
import Derived.Deep.Matrix
import Derived.Test.YtddemlajfbagdaaDoorZzRot
namespace Go.Proofs.YtddemlajfbagdaaDoor
set_option maxRecDepth 100000
open Go.RowKit

theorem nzT_zero (n : Nat) (l : List UInt8) : nzT (n + 1) (0 :: l) = ((nzT (n + 1) l).1, (nzT (n + 1) l).2 + 1) := by
  conv => lhs; unfold nzT
  rw [if_pos rfl]
theorem nzT_some (n : Nat) (x : UInt8) (l : List UInt8) (h : x ≠ 0) : nzT (n + 1) (x :: l) = (x :: (nzT n l).1, (nzT n l).2 + 1) := by
  conv => lhs; unfold nzT
  rw [if_neg h]
def ERes (w : World) (r : List UInt8 × Int × Nat) (e : Ending) (w' : World) : Prop := ∃ A n c, e = .returned (.tuple #[.slice A n c, .int .i64 (r.2.2 : Int), .int .i64 r.2.1]) ∧ Rd w' A n c r.1 ∧ Old w w'
set_option maxHeartbeats 8000000 in
theorem renc1_any (n : Int) (A1 A2 : Option Addr) (m1 c1 m2 c2 : Nat) (msg r : List UInt8) (w : World) (h1 : Rd w A1 m1 c1 msg) (h2 : Rd w A2 m2 c2 r) (hn : n ≤ 200 ∨ 65536 < n) (hn0 : -9223372036854775808 ≤ n) (hm1 : m1 ≤ 1000) (hm2 : m2 ≤ 1000) :
    Calls Tryd.prog 28 #[.int .i64 n, .slice A1 m1 c1, .slice A2 m2 c2] w (ERes w (enc1F n msg r)) := by
  have hl1 := h1.1
  have hl2 := h2.1
  unfold enc1F
  rw [← hl1]
  by_cases d1 : 65536 < n
  · rw [if_pos d1]
    have c1i : n > 65536 := d1
    have b1 : decide (n > 65536) = true := decide_eq_true d1
    clear h1 h2 hl1 hl2
    go_enter Tryd.func28, Tryd.ntmps28
    go_wp2_with fail
    refine bodyPost_ret (results_tmp3 rfl _ _ _) rfl ?_
    exact ⟨none, 0, 0, rfl, Rd.nil _, Old.refl _⟩
  · rw [if_neg d1]
    have c1i : ¬ n > 65536 := d1
    have b1 : decide (n > 65536) = false := decide_eq_false d1
    by_cases d2 : n < 11
    · rw [if_pos (.inl d2)]
      have b2 : decide (n < 11) = true := decide_eq_true d2
      clear h1 h2 hl1 hl2
      go_enter Tryd.func28, Tryd.ntmps28
      go_wp2_with fail
      refine bodyPost_ret (results_tmp3 rfl _ _ _) rfl ?_
      exact ⟨none, 0, 0, rfl, Rd.nil _, Old.refl _⟩
    · have b2 : decide (n < 11) = false := decide_eq_false d2
      obtain ⟨t0, ht0⟩ : ∃ x, n - 11 = x := ⟨_, rfl⟩
      have ht0w : IntKind.i64.wrap t0 = t0 := IntWalk.i64_in _ (by omega)
      rw [ht0]
      by_cases d3 : t0 < (m1 : Int)
      · rw [if_pos (.inr d3)]
        have c3i : (m1 : Int) > t0 := d3
        have b3 : decide ((m1 : Int) > t0) = true := decide_eq_true d3
        clear h1 h2 hl1 hl2
        go_enter Tryd.func28, Tryd.ntmps28
        go_wp2_with fail
        refine bodyPost_ret (results_tmp3 rfl _ _ _) rfl ?_
        exact ⟨none, 0, 0, rfl, Rd.nil _, Old.refl _⟩
      · rw [if_neg (fun h => h.elim d2 d3)]
        have c3i : ¬ (m1 : Int) > t0 := d3
        have b3 : decide ((m1 : Int) > t0) = false := decide_eq_false d3
        obtain ⟨K, hK⟩ := Int.eq_ofNat_of_zero_le (show 0 ≤ n - 3 - (m1 : Int) by omega)
        obtain ⟨t1, ht1⟩ : ∃ x, n - 1 = x := ⟨_, rfl⟩
        have ht1w : IntKind.i64.wrap t1 = t1 := IntWalk.i64_in _ (by omega)
        obtain ⟨t2, ht2⟩ : ∃ x, t1 - (m1 : Int) = x := ⟨_, rfl⟩
        have ht2w : IntKind.i64.wrap t2 = t2 := IntWalk.i64_in _ (by omega)
        have hKn : n.toNat - 3 - m1 = K := by omega
        rw [hKn]
        have ht2K : t2 = (K : Int) + 2 := by omega
        have hKb : K + m1 + 3 ≤ 200 := by omega
        obtain ⟨RS, hRS⟩ : ∃ R, (if (nzT K r).1.length < K then ([], 5, (nzT K r).2) else ([0, 2] ++ (nzT K r).1 ++ 0 :: msg, 0, (nzT K r).2) : List UInt8 × Int × Nat) = R := ⟨_, rfl⟩
        rw [hRS]
        have hA1 : ∀ P j, nzT K r = (P, j) → P.length < K → RS = ([], 5, j) := fun P j h h1 => by rw [← hRS, h, if_pos h1]
        have hA2 : ∀ P j, nzT K r = (P, j) → P.length = K → RS = ([0, 2] ++ P ++ 0 :: msg, 0, j) := fun P j h h1 => by rw [← hRS, h, if_neg (by rw [h1]; exact Nat.lt_irrefl _)]
        have HH := Lib.hid (And.intro h1 (And.intro h2 (And.intro hA1 (And.intro hA2 (And.intro ht2K (And.intro hKb (And.intro hl1 (And.intro hl2 hm2))))))))
        clear h1 h2 hA1 hA2 ht2K hKb hl1 hl2 hm1 hm2 hn hn0 hK hKn hRS
        go_enter Tryd.func28, Tryd.ntmps28
        go_wp2_with fail
        obtain ⟨w1, hw1⟩ : ∃ w1, w.alloc (.cells #[.int .u8 0, .int .u8 2] 5) = w1 := ⟨_, rfl⟩
        have hO1 : Own w1 w.heap.size (.slice (some ⟨w.heap.size, 0, none⟩) 2 2) [0, 2] := by rw [← hw1]; exact own_new w [0, 2] _ 2 rfl rfl (by decide)
        have H1 := Lib.hid (And.intro hO1 (show Old w w1 by rw [← hw1]; exact (Old.refl w).alloc _))
        rw [hw1]
        clear hO1 hw1
        go_loopw [9, 10] (fun b kv wr => ∃ (A' : Option Addr) (n' c' j : Nat) (P : List UInt8), b = .slice A' n' c' ∧ kv = .int .i64 (j : Int) ∧ Own wr w.heap.size (.slice A' n' c') ([0, 2] ++ P) ∧ j ≤ m2 ∧ P.length ≤ K ∧ nzT K r = (P ++ (nzT (K - P.length) (r.drop j)).1, j + (nzT (K - P.length) (r.drop j)).2) ∧ Old w wr) (fun _ kv _ => m2 - (intOf kv).toNat)
        case atStart => exact ⟨_, _, _, 0, [], rfl, rfl, by simpa using H1.out.1, Nat.zero_le _, Nat.zero_le _, by simp, H1.out.2⟩
        case round =>
          obtain ⟨A', n', c', j, P, rfl, rfl, hO, hj, hP, hnz, hW⟩ := hrel
          have hn' := hO.len
          rw [List.length_append] at hn'
          simp only [List.length_cons, List.length_nil] at hn'
          have hx1 := HH.out.2.2.2.2.1
          have hx2 := HH.out.2.2.2.2.2.1
          by_cases hlt : P.length < K
          · have hd : decide ((n' : Int) < t2) = true := decide_eq_true (by omega)
            have hdi : (n' : Int) < t2 := by omega
            by_cases hjl : j < m2
            · have hdj : decide ((j : Int) ≥ (m2 : Int)) = false := decide_eq_false (by omega)
              have hdji : ¬ (j : Int) ≥ (m2 : Int) := by omega
              have hdji' : (j : Int) < (m2 : Int) := by omega
              obtain ⟨b0, o0, rfl, hat⟩ := HH.out.2.1.addr (by omega)
              obtain ⟨x, hx⟩ : ∃ x, r[j]? = some x := ⟨_, List.getElem?_eq_getElem (by rw [← HH.out.2.2.2.2.2.2.2.1]; exact hjl)⟩
              have yx : wr.cell? ⟨b0, o0 + j, none⟩ = some (B x) := (Below.cell (p := ⟨b0, o0 + j, none⟩) hW hat.1).trans (hat.2 j x hx)
              have hdr : r.drop j = x :: r.drop (j + 1) := by
                rw [List.drop_eq_getElem_cons (by rw [← HH.out.2.2.2.2.2.2.2.1]; exact hjl), (List.getElem?_eq_some_iff.1 hx).2]
              obtain ⟨q, hq⟩ : ∃ q, K - P.length = q + 1 := ⟨K - P.length - 1, by omega⟩
              obtain ⟨j1, hj1⟩ : ∃ j1, j + 1 = j1 := ⟨_, rfl⟩
              have hj1i : (j : Int) + 1 = (j1 : Int) := by omega
              have hj1w : IntKind.i64.wrap (j1 : Int) = (j1 : Int) := IntWalk.i64_in _ (by have := HH.out.2.2.2.2.2.2.2.2; omega)
              have hjc : (j : Int) < (c2 : Int) := by have := HH.out.2.1.2.1; omega
              rw [hdr, hq, hj1] at hnz
              by_cases e0 : x = 0
              · have b0 : isN x 0 = true := by rw [e0]; rfl
                have hnz2 : nzT K r = (P ++ (nzT (K - P.length) (r.drop j1)).1, j1 + (nzT (K - P.length) (r.drop j1)).2) := by
                  rw [hnz, hq, e0]
                  rw [nzT_zero]
                  exact Prod.ext rfl (by dsimp only; omega)
                have HG := Lib.hid (And.intro hO (And.intro hW (And.intro hnz2 (And.intro hP (show j < m2 ∧ j + 1 = j1 from ⟨hjl, hj1⟩)))))
                clear hO hW hnz hnz2 hP hx1 hx2 hlt hjl hj hx hat hdr hq hj1 e0 hn'
                go_wp2_with fail
                go_roundw
                case rel => exact ⟨_, _, _, j1, P, rfl, rfl, HG.out.1, by have := HG.out.2.2.2.2; omega, HG.out.2.2.2.1, HG.out.2.2.1, HG.out.2.1⟩
                case measure => have := HG.out.2.2.2.2; simp [intOf]; omega
              · have b0 : isN x 0 = false := by unfold isN; simp only [beq_eq_false_iff_ne]; exact fun h => e0 (UInt8.toNat_inj.1 (by exact_mod_cast h))
                have hnz2 : nzT K r = ((P ++ [x]) ++ (nzT (K - (P ++ [x]).length) (r.drop j1)).1, j1 + (nzT (K - (P ++ [x]).length) (r.drop j1)).2) := by
                  rw [hnz, show K - (P ++ [x]).length = q by rw [List.length_append, List.length_singleton]; omega]
                  rw [nzT_some q x _ e0]
                  exact Prod.ext (by simp) (by dsimp only; omega)
                have HG := Lib.hid (And.intro hO (And.intro hW (And.intro hnz2 (And.intro (show (P ++ [x]).length ≤ K by rw [List.length_append, List.length_singleton]; omega) (And.intro (show j < m2 ∧ j + 1 = j1 from ⟨hjl, hj1⟩) hx2)))))
                clear hO hW hnz hnz2 hP hx1 hx2 hlt hjl hj hx hat hdr hq hj1 e0 hn'
                go_wp2_with (at_builtin; refine wp_app_lit (.tmp 41) (.tmp 46) w.heap.size _ _ HG.out.1 HG.out.2.1.size [x] (by have h1 := HG.out.2.2.2.1; have h2 := HG.out.2.2.2.2.2; simp only [List.length_append, List.length_singleton, List.length_cons, List.length_nil] at h1 ⊢; omega) (by simp) rfl rfl rfl rfl rfl rfl ?_; intro A5 n5 c5 w5 hn5 hG5; have H5 := Lib.hid (And.intro hG5.own (show Old w w5 from Below.trans (HG.out.2.1.alloc _) hG5.below)); clear hG5)
                go_roundw
                case rel => exact ⟨A5, n5, c5, j1, P ++ [x], rfl, rfl, by rw [← List.append_assoc]; exact H5.out.1, by have := HG.out.2.2.2.2.1; omega, HG.out.2.2.2.1, HG.out.2.2.1, H5.out.2⟩
                case measure => have := HG.out.2.2.2.2.1; simp [intOf]; omega
            · obtain rfl : j = m2 := by omega
              have hdj : decide ((j : Int) ≥ (j : Int)) = true := decide_eq_true (by omega)
              have hnz2 : nzT K r = (P, j) := by
                rw [hnz, List.drop_eq_nil_of_le (by rw [← HH.out.2.2.2.2.2.2.2.1]; exact Nat.le_refl _)]
                obtain ⟨q, hq⟩ : ∃ q, K - P.length = q + 1 := ⟨K - P.length - 1, by omega⟩
                rw [hq]
                simp [nzT]
              have HG := Lib.hid (And.intro (HH.out.2.2.1 P j hnz2 hlt) hW)
              clear hO hW hnz hnz2 hP hx1 hx2 hlt hjl hj hn'
              go_wp2_with fail
              refine bodyPost_ret (results_tmp3 rfl _ _ _) rfl ?_
              rw [HG.out.1]
              exact ⟨none, 0, 0, rfl, Rd.nil _, HG.out.2⟩
          · have hPK : P.length = K := by omega
            have hd : decide ((n' : Int) < t2) = false := decide_eq_false (by omega)
            have hdi : ¬ (n' : Int) < t2 := by omega
            have hnz2 : nzT K r = (P, j) := by
              rw [hnz, hPK, Nat.sub_self]
              simp [nzT]
            have HG := Lib.hid (And.intro (HH.out.2.2.2.1 P j hnz2 hPK) (And.intro hO (And.intro hW (And.intro hPK hx2))))
            clear hO hW hnz hnz2 hP hx1 hx2 hlt hPK hj hn'
            go_wp2_with (first | (at_builtin; refine wp_app_lit (.tmp 50) (.tmp 51) w.heap.size _ _ HG.out.2.1 HG.out.2.2.1.size [0] (by have := HG.out.2.2.2; simp; omega) (by simp) rfl rfl rfl rfl rfl rfl ?_; intro A5 n5 c5 w5 hn5 hG5; have H5 := Lib.hid (And.intro hG5.own (show Old w w5 from Below.trans (HG.out.2.2.1.alloc _) hG5.below)); clear hG5) | (at_builtin; refine wp_app2 (.tmp 53) (.tmp 54) w.heap.size (.slice A5 n5 c5) _ H5.out.1 H5.out.2.size A1 m1 c1 msg (HH.out.1.below H5.out.2) (by have h1 := HG.out.2.2.2; have h2 := HH.out.2.2.2.2.2.2.1; simp; omega) rfl rfl rfl rfl ?_; intro A7 n7 c7 w6 hn7 hG7; have H6 := Lib.hid (And.intro hG7.own (show Old w w6 from Below.trans H5.out.2 hG7.below)); clear hG7))
            refine bodyPost_ret (results_tmp3 rfl _ _ _) rfl ?_
            rw [HG.out.1]
            refine ⟨_, _, _, rfl, ?_, H6.out.2⟩
            have := H6.out.1.rd
            simpa using this
end Go.Proofs.YtddemlajfbagdaaDoor
namespace Go.Proofs.YtddemlajfbagdaaDoor
open Go.RowKit

/-- What an iterator does: a round's own word Mine is told at every yield, Start ahead of the first, Fin behind the last; T are the blocks that it writes in between. -/
def IterF (P : Program) (gf : Nat) (lb : Array Value) (Arg : Nat → Array Value → World → Prop) (Start : World → Prop) (Mine : Nat → World → Prop) (Fin : World → Prop) (N : Nat) (T : List Nat) : Prop :=
  ∀ (l : Nat) (J Jx : Nat → World → Prop) (W : World),
    (∀ k W1 W2, J k W1 → Turn T W1 W2 → J k W2) → (∀ k W1 W2, Jx k W1 → Turn [] W1 W2 → Jx k W2) →
    (∀ k args W1, k < N → J k W1 → Mine k W1 → Arg k args W1 → YieldAt Fence.wide 2 P l args W1 fun e W' =>
      (e = .returned (.bool true) ∧ J (k + 1) W' ∧ Mine k W') ∨ (e = .returned (.bool false) ∧ Jx k W')) →
    J 0 W → Start W →
    CallsIn Fence.wide 3 P gf (#[.func (.yield l) #[] #[]] ++ lb) W fun e W' => (∃ v, e = .returned v) ∧ ((J N W' ∧ Fin W') ∨ ∃ k, k < N ∧ Jx k W')
theorem wp_rangeF {P : Program} {g : Operand} {ps : Array Tmp} {assign body : Code} {Q : Exit → Act → World → Prop} {a : Act} {w : World}
    {gf : Nat} {lb : Array Value} {Arg : Nat → Array Value → World → Prop} {Start : World → Prop} {Mine : Nat → World → Prop} {Fin : World → Prop} {N : Nat} {T : List Nat}
    (hg : a.eval g = .func (.func gf) #[] lb) (eg : ∀ args w, (callFunc gf args).run P w = .ok (.enter gf args) w)
    (hit : IterF P gf lb Arg Start Mine Fin N T) (hps : ∀ k args W, Arg k args W → args.size = ps.size) (hT : ∀ t ∈ T, t < w.heap.size)
    (I : Nat → World → Prop) (Ix : Code → Nat → World → Prop)
    (hI : ∀ k W1 W2 S, I k W1 → Turn S W1 W2 → (∀ t ∈ S, t ∈ T ∨ (t = w.heap.size + 1 ∧ ∃ r, W1.heap[t]? = some (.loop r))) → I k W2)
    (hIx : ∀ c k W1 W2 S, Ix c k W1 → Turn S W1 W2 → (∀ t ∈ S, t = w.heap.size + 1 ∧ ∃ r, W1.heap[t]? = some (.loop r)) → Ix c k W2)
    (hF : ∀ W1 W2, Fin W1 → (∃ r, W1.heap[w.heap.size + 1]? = some (.loop r)) → Turn [w.heap.size + 1] W1 W2 → Fin W2)
    (hM : ∀ k W1 W2, Mine k W1 → (∃ r, W1.heap[w.heap.size + 1]? = some (.loop r)) → Turn [w.heap.size + 1] W1 W2 → Mine k W2)
    (hA : ∀ k args W1 W2, Arg k args W1 → (∃ r, W1.heap[w.heap.size + 1]? = some (.loop r)) → Turn [w.heap.size + 1] W1 W2 → Arg k args W2)
    (h0 : I 0 w) (hM1 : ∀ W, Turn [] w W → Start W) (a₁ : Array Value → Act)
    (hassign : ∀ (l : Nat) (args : Array Value) (k : Nat) (W : World) (K : Act → World → Prop), Arg k args W → K (a₁ args) W →
      assign.wpIn (Fence.wide.inRound l) 2 P (Exit.then K (fun _ _ _ => False)) { tmps := (ps.zip args).foldl (fun t (p, v) => t.setIfInBounds p v) a.tmps, defers := [] } W)
    (hbody : ∀ (l k : Nat) (args : Array Value) (W : World), k < N → w.heap.size + 1 < W.heap.size → I k W → Mine k W → Arg k args W → body.wpIn (Fence.wide.inRound l) 2 P (roundEnds w.heap.size I Ix Mine k W) (a₁ args) W)
    (hdone : ∀ (W : World), w.heap.size + 1 < W.heap.size → I N W → Fin W → W.heap[w.heap.size]? = some (.deferred (some [])) → Q .normal { a with defers := { target := .collected w.heap.size, args := #[] } :: a.defers } W)
    (hstop : ∀ (c : Code) (k : Nat) (W : World), w.heap.size + 1 < W.heap.size → k < N → Ix c k W → W.heap[w.heap.size]? = some (.deferred (some [])) → c.wp P Q { a with defers := { target := .collected w.heap.size, args := #[] } :: a.defers } W) :
    (Code.rangeFunc g ps assign body).wp P Q a w := by
  refine (wpIn_wide (n := 4)).1 (wpIn_rangeFunc ?_)
  intro fn hfn
  rw [Fence.wide_round]
  obtain ⟨rec, hrec⟩ : ∃ rec : LoopState → Option Code → Loop, rec = fun st pe => { state := st, pending := pe, fn, tmps := a.tmps, params := ps, assign, body, defers := w.heap.size } := ⟨_, rfl⟩
  obtain ⟨W1, hW1⟩ : ∃ W1, (w.alloc (.deferred (some []))).alloc (.loop (rec .ready none)) = W1 := ⟨_, rfl⟩
  have hL1 : W1.heap[w.heap.size + 1]? = some (.loop (rec .ready none)) := by
    rw [← hW1]; have := World.alloc_heap_new (w.alloc (.deferred (some []))) (.loop (rec .ready none)); rwa [World.size_alloc] at this
  have hK1 : W1.heap[w.heap.size]? = some (.deferred (some [])) := by
    rw [← hW1]; exact (Below.heap_alloc _ _ _ (by simp)).trans (World.alloc_heap_new w _)
  have hT1 : Turn [] w W1 := by rw [← hW1]; exact ((Turn.refl _ _).alloc _).alloc _
  have hI1 : I 0 W1 := hI 0 w W1 [] h0 hT1 (by simp)
  have hMine1 : Start W1 := hM1 W1 hT1
  have hTD : w.heap.size ∉ T ∧ w.heap.size + 1 ∉ T := ⟨fun h => by have := hT _ h; omega, fun h => by have := hT _ h; omega⟩
  refine ⟨w.heap.size + 1, [{ target := .collected w.heap.size, args := #[] }], W1, { target := .fn (.func gf) lb, args := #[.func (.yield (w.heap.size + 1)) #[] #[]] }, W1, gf,
    #[.func (.yield (w.heap.size + 1)) #[] #[]] ++ lb, W1, ?_, ?_, ?_, ?_, fun h => by simp [Fence.wide] at h, ?_⟩
  · rw [← hW1, hrec]; exact run_enterLoop_outer _ _ _ _ _
  · simp only [resolve, hg]
    simp [go_sem]
  · intro f' hf'; exact trivial
  · simp [invoke, go_sem, eg]
  · refine (hit (w.heap.size + 1)
      (fun k W => I k W ∧ W.heap[w.heap.size + 1]? = some (.loop (rec .ready none)) ∧ W.heap[w.heap.size]? = some (.deferred (some [])))
      (fun k W => ∃ c, Ix c k W ∧ W.heap[w.heap.size + 1]? = some (.loop (rec .done (some c))) ∧ W.heap[w.heap.size]? = some (.deferred (some [])))
      W1 ?_ ?_ ?_ ⟨hI1, hL1, hK1⟩ hMine1).mono ?_
    · rintro k A B ⟨hi, hl, hk⟩ ht
      have hlt : w.heap.size + 1 < A.heap.size := (Array.getElem?_eq_some_iff.1 hl).1
      exact ⟨hI k A B T hi ht (fun t h => .inl h), (ht.block _ hlt hTD.2).trans hl, (ht.block _ (by omega) hTD.1).trans hk⟩
    · rintro k A B ⟨c, hi, hl, hk⟩ ht
      have hlt : w.heap.size + 1 < A.heap.size := (Array.getElem?_eq_some_iff.1 hl).1
      exact ⟨c, hIx c k A B [] hi ht (fun t h => by cases h), (ht.block _ hlt (by simp)).trans hl, (ht.block _ (by omega) (by simp)).trans hk⟩
    · rintro k args W hkN ⟨hi, hl, hk⟩ hmine harg
      have hlt : w.heap.size + 1 < W.heap.size := (Array.getElem?_eq_some_iff.1 hl).1
      have hy := run_yield (P := P) (args := args) hl (by rw [hrec]; exact hps k args W harg)
      rw [hrec] at hy
      refine ⟨fn, _, assign, body, hy, roundIn_of_wpIn hfn (hassign _ args k W _ harg ?_)⟩
      clear hy
      refine ⟨_, run_beginRound hl (by rw [hrec]), ?_⟩
      have hl2 : (W.putObj (w.heap.size + 1) (.loop { rec .ready none with state := .busy })).heap[w.heap.size + 1]? = some (.loop { rec .ready none with state := .busy }) := World.putObj_heap_same hlt
      have hk2 : (W.putObj (w.heap.size + 1) (.loop { rec .ready none with state := .busy })).heap[w.heap.size]? = some (.deferred (some [])) := (World.putObj_heap_other (by omega)).trans hk
      have ht2 : Turn [w.heap.size + 1] W (W.putObj (w.heap.size + 1) (.loop { rec .ready none with state := .busy })) := (Turn.refl _ W).putObj (.inl (by simp)) _
      refine wpIn_mono (hbody _ k args _ hkN (by simpa using hlt) (hI _ _ _ _ hi ht2 (fun t h => .inr (by simp at h; subst h; exact ⟨rfl, _, hl⟩))) (hM _ _ _ hmine ⟨_, hl⟩ ht2) (hA _ _ _ _ harg ⟨_, hl⟩ ht2)) ?_
      have fin : ∀ (jump : Option Code) (W3 : World), KeepsTwo w.heap.size (W.putObj (w.heap.size + 1) (.loop { rec .ready none with state := .busy })) W3 →
          (Instr.endRound (w.heap.size + 1) jump).run P W3 = .ok (.bool jump.isNone) (W3.putObj (w.heap.size + 1) (.loop (rec (if jump.isNone then .ready else .done) jump))) ∧
          W3.heap[w.heap.size + 1]? = some (.loop { rec .ready none with state := .busy }) ∧
          (W3.putObj (w.heap.size + 1) (.loop (rec (if jump.isNone then .ready else .done) jump))).heap[w.heap.size + 1]? = some (.loop (rec (if jump.isNone then .ready else .done) jump)) ∧
          (W3.putObj (w.heap.size + 1) (.loop (rec (if jump.isNone then .ready else .done) jump))).heap[w.heap.size]? = some (.deferred (some [])) := fun jump W3 hk3 => by
        obtain ⟨S, ht, hs1, hs2⟩ := hk3
        have hl3 := (ht.block _ (by simpa using hlt) hs2).trans hl2
        have hk3 := (ht.block _ (by simp; omega) hs1).trans hk2
        have := run_endRound (P := P) jump hl3
        rw [hrec] at this ⊢
        exact ⟨this, by rw [hrec] at hl3; exact hl3, World.putObj_heap_same (Array.getElem?_eq_some_iff.1 hl3).1, (World.putObj_heap_other (by omega)).trans hk3⟩
      have ht4 : ∀ (W3 : World) (o : Obj), Turn [w.heap.size + 1] W3 (W3.putObj (w.heap.size + 1) o) := fun W3 o => (Turn.refl _ W3).putObj (.inl (by simp)) _
      rintro e a3 W3 hp
      cases e with
      | normal =>
        obtain ⟨hk3, hi3, hm3⟩ := hp
        obtain ⟨hr, hl3, hl4, hk4⟩ := fin none W3 hk3
        exact ⟨_, _, hr, .inl ⟨rfl, ⟨hI _ _ _ _ hi3 (ht4 _ _) (fun t h => .inr (by simp at h; subst h; exact ⟨rfl, _, hl3⟩)), hl4, hk4⟩, hM _ _ _ hm3 ⟨_, hl3⟩ (ht4 _ _)⟩⟩
      | ret =>
        obtain ⟨hk3, hi3⟩ := hp
        obtain ⟨hr, hl3, hl4, hk4⟩ := fin (some .ret) W3 hk3
        exact ⟨_, _, hr, .inr ⟨rfl, .ret, hIx _ _ _ _ _ hi3 (ht4 _ _) (fun t h => (by simp at h; subst h; exact ⟨rfl, _, hl3⟩)), hl4, hk4⟩⟩
      | exit id =>
        obtain ⟨hk3, hi3⟩ := hp
        obtain ⟨hr, hl3, hl4, hk4⟩ := fin (some (.exit id)) W3 hk3
        exact ⟨_, _, hr, .inr ⟨rfl, .exit id, hIx _ _ _ _ _ hi3 (ht4 _ _) (fun t h => (by simp at h; subst h; exact ⟨rfl, _, hl3⟩)), hl4, hk4⟩⟩
      | goto t =>
        obtain ⟨hk3, hi3⟩ := hp
        obtain ⟨hr, hl3, hl4, hk4⟩ := fin (some (.goto t)) W3 hk3
        exact ⟨_, _, hr, .inr ⟨rfl, .goto t, hIx _ _ _ _ _ hi3 (ht4 _ _) (fun t h => (by simp at h; subst h; exact ⟨rfl, _, hl3⟩)), hl4, hk4⟩⟩
      | panic ch => exact hp.elim
      | outgrown => exact hp.elim
    · have ht4 : ∀ (W3 : World) (o : Obj), Turn [w.heap.size + 1] W3 (W3.putObj (w.heap.size + 1) o) := fun W3 o => (Turn.refl _ W3).putObj (.inl (by simp)) _
      rintro e W2 ⟨⟨v, rfl⟩, (⟨⟨hi, hl, hk⟩, hfin⟩ | ⟨k, hkN, c, hi, hl, hk⟩)⟩
      · have hlt : w.heap.size + 1 < W2.heap.size := (Array.getElem?_eq_some_iff.1 hl).1
        exact ⟨none, _, by have := run_endLoop (P := P) hl (by rw [hrec]; simp); rw [hrec] at this; exact this,
          hdone _ (by simpa using hlt) (hI _ _ _ _ hi (ht4 _ _) (fun t h => .inr (by simp at h; subst h; exact ⟨rfl, _, hl⟩))) (hF _ _ hfin ⟨_, hl⟩ (ht4 _ _)) ((World.putObj_heap_other (by omega)).trans hk)⟩
      · have hlt : w.heap.size + 1 < W2.heap.size := (Array.getElem?_eq_some_iff.1 hl).1
        exact ⟨some c, _, by have := run_endLoop (P := P) hl (by rw [hrec]; simp); rw [hrec] at this; exact this,
          wpIn_wide.2 (hstop c k _ (by simpa using hlt) hkN (hIx _ _ _ _ _ hi (ht4 _ _) (fun t h => (by simp at h; subst h; exact ⟨rfl, _, hl⟩))) ((World.putObj_heap_other (by omega)).trans hk))⟩

theorem wp_rangeF1 (q j : Nat) {P : Program} {g : Operand} {ps : Array Tmp} {assign body : Code} {Q : Exit → Act → World → Prop} {a : Act} {w : World}
    {gf : Nat} {lb : Array Value} {Arg : Nat → Array Value → World → Prop} {Start : World → Prop} {Mine : Nat → World → Prop} {Fin : World → Prop} {N : Nat} {T : List Nat}
    (hg : a.eval g = .func (.func gf) #[] lb) (eg : ∀ args w, (callFunc gf args).run P w = .ok (.enter gf args) w)
    (hit : IterF P gf lb Arg Start Mine Fin N T) (hps : ∀ k args W, Arg k args W → args.size = ps.size) (hT : ∀ t ∈ T, t < w.heap.size)
    (I : Nat → World → Prop) (Ix : Code → Nat → World → Prop)
    (hI : ∀ k W1 W2 S, I k W1 → Turn S W1 W2 → (∀ t ∈ S, t ∈ T ∨ (t = w.heap.size + 1 ∧ ∃ r, W1.heap[t]? = some (.loop r))) → I k W2)
    (hIx : ∀ c k W1 W2 S, Ix c k W1 → Turn S W1 W2 → (∀ t ∈ S, t = w.heap.size + 1 ∧ ∃ r, W1.heap[t]? = some (.loop r)) → Ix c k W2)
    (hF : ∀ W1 W2, Fin W1 → (∃ r, W1.heap[w.heap.size + 1]? = some (.loop r)) → Turn [w.heap.size + 1] W1 W2 → Fin W2)
    (hM : ∀ k W1 W2, Mine k W1 → (∃ r, W1.heap[w.heap.size + 1]? = some (.loop r)) → Turn [w.heap.size + 1] W1 W2 → Mine k W2)
    (hA : ∀ k args W1 W2, Arg k args W1 → (∃ r, W1.heap[w.heap.size + 1]? = some (.loop r)) → Turn [w.heap.size + 1] W1 W2 → Arg k args W2)
    (h0 : I 0 w) (hM1 : ∀ W, Turn [] w W → Start W)
    (hassign : ∀ (l : Nat) (args : Array Value) (k : Nat) (W : World) (K : Act → World → Prop), Arg k args W →
      K { tmps := ((ps.zip args).foldl (fun t (p, v) => t.setIfInBounds p v) a.tmps).setIfInBounds q (args.getD j undef), defers := [] } W →
      assign.wpIn (Fence.wide.inRound l) 2 P (Exit.then K (fun _ _ _ => False)) { tmps := (ps.zip args).foldl (fun t (p, v) => t.setIfInBounds p v) a.tmps, defers := [] } W)
    (hbody : ∀ (l k : Nat) (args : Array Value) (W : World), k < N → w.heap.size + 1 < W.heap.size → I k W → Mine k W → Arg k args W →
      body.wpIn (Fence.wide.inRound l) 2 P (roundEnds w.heap.size I Ix Mine k W) { tmps := ((ps.zip args).foldl (fun t (p, v) => t.setIfInBounds p v) a.tmps).setIfInBounds q (args.getD j undef), defers := [] } W)
    (hdone : ∀ (W : World), w.heap.size + 1 < W.heap.size → I N W → Fin W → W.heap[w.heap.size]? = some (.deferred (some [])) → Q .normal { a with defers := { target := .collected w.heap.size, args := #[] } :: a.defers } W)
    (hstop : ∀ (c : Code) (k : Nat) (W : World), w.heap.size + 1 < W.heap.size → k < N → Ix c k W → W.heap[w.heap.size]? = some (.deferred (some [])) → c.wp P Q { a with defers := { target := .collected w.heap.size, args := #[] } :: a.defers } W) :
    (Code.rangeFunc g ps assign body).wp P Q a w :=
  wp_rangeF hg eg hit hps hT I Ix hI hIx hF hM hA h0 hM1 (fun args => { tmps := ((ps.zip args).foldl (fun t (p, v) => t.setIfInBounds p v) a.tmps).setIfInBounds q (args.getD j undef), defers := [] }) hassign hbody hdone hstop
end Go.Proofs.YtddemlajfbagdaaDoor
namespace Go.Proofs.YtddemlajfbagdaaDoor
set_option maxRecDepth 100000
open Go.RowKit Go.ChangeShapes Go.WideShapes Go.ChangeAt

/-- One row: read, or of no room. -/
def RdE (w : World) (A : Option Addr) (m c : Nat) (l : List UInt8) : Prop := Rd w A m c l ∨ (m = 0 ∧ c = 0 ∧ l = [])
def RowsAt (w : World) (A : Option Addr) (m : Nat) (ls : List (List UInt8)) : Prop :=
  ls.length = m ∧ (m = 0 ∨ ∃ b off, A = some ⟨b, off, none⟩ ∧ b < w.heap.size ∧ ∀ (j : Nat) (l : List UInt8), ls[j]? = some l → ∃ Aj mj cj, w.cell? ⟨b, off + j, none⟩ = some (.slice Aj mj cj) ∧ RdE w Aj mj cj l)
theorem RdE.below {w w' : World} {A : Option Addr} {m c : Nat} {l : List UInt8} (h : RdE w A m c l) (hb : Old w w') : RdE w' A m c l := h.imp (fun h => h.below hb) id
section
variable {H : Type} {enc : TypeId × Value → H}
theorem open_rows {W : World} {base : Nat} {v : Value} {d : DataW H} {p : List MemPlace} (hval : Value.okWide Tryd.prog W .any base 57 v) (h : DataW.Trod enc Tryd.prog W 0 (fun _ => true) true 57 v d p) :
    ∃ A m c ls, v = .slice A m c ∧ m ≤ maxLen ∧ RowsAt W A m ls := by
  have hval' := hval
  obtain ⟨a1, len, cap, rfl⟩ := okWide_slice Tryd.underlying57 hval
  obtain ⟨fuel, hf⟩ := h
  rcases Deep.open_int_rows Tryd.underlying57 Tryd.underlying22 Tryd.underlying5 (show Tryd.prog.cellsOf 22 = 1 by kernel_rfl) (show Tryd.prog.cellsOf 5 = 1 by kernel_rfl) hf with ⟨hcs, hx⟩ | ⟨a, len', cap', A, L, C, Z, hcs, _, hl, hm, hx, hr⟩
  · simp [Value.cells] at hcs
    obtain ⟨rfl, rfl, rfl⟩ := hcs
    exact ⟨_, _, _, [], rfl, Nat.zero_le _, rfl, .inl rfl⟩
  · simp [Value.cells] at hcs
    obtain ⟨rfl, rfl, rfl⟩ := hcs
    unfold Value.okWide Cell.okWide Cell.ok at hval'
    rw [Tryd.underlying57] at hval'
    obtain ⟨_, _, _, hspot, row, cells, hsh, _⟩ := hval'
    have hlt : a.block < W.heap.size := by
      unfold World.shape? at hsh
      rcases Nat.lt_or_ge a.block W.heap.size with h | h
      · exact h
      · rw [Array.getElem?_eq_none h] at hsh; cases hsh
    obtain ⟨ab, ao, spot⟩ := a
    simp only at hspot hlt
    subst hspot
    refine ⟨_, len, cap, (List.range len).map fun r => ((Z r).take (L r)).map fun n => UInt8.ofNat n.toNat, rfl, by omega, by simp, .inr ⟨ab, ao, rfl, hlt, fun j l hj => ?_⟩⟩
    have hj' : j < len := by
      have := (List.getElem?_eq_some_iff.1 hj).1
      simpa using this
    rw [List.getElem?_map, List.getElem?_range hj'] at hj
    simp only [Option.map_some, Option.some.injEq] at hj
    subst hj
    obtain ⟨hc, h1, h2, h3, h4, h5, h6⟩ := hr j (by omega)
    rw [Addr.add_lit] at hc
    refine ⟨_, _, _, hc, ?_⟩
    rcases Nat.eq_zero_or_pos (C j) with hz | hz
    · exact .inr ⟨by omega, hz, by rw [show L j = 0 by omega]; rfl⟩
    · refine .inl ?_
      obtain ⟨a', ha'⟩ : ∃ a', A j = some a' := by
        cases hA : A j with
        | none => have := h5 hA; omega
        | some a' => exact ⟨a', rfl⟩
      obtain ⟨_, h7⟩ := h6 a' ha'
      have h80 := h7 0 hz
      rw [show a'.add 0 = a' from rfl] at h80
      obtain ⟨ab2, ao2, sp2⟩ := a'
      have hsp : sp2 = none ∧ ab2 < W.heap.size := by
        unfold World.cell? at h80
        simp only at h80
        split at h80
        · rename_i cs t fr hh
          refine ⟨?_, (Array.getElem?_eq_some_iff.1 hh).1⟩
          cases sp2 with
          | none => rfl
          | some s => simp at h80
        · cases h80
      obtain ⟨rfl, hlt2⟩ := hsp
      rw [ha']
      refine ⟨by simp; omega, h1, h2, .inr ⟨ab2, ao2, rfl, hlt2, fun k x hk => ?_⟩⟩
      have hk' : k < L j := by
        have := (List.getElem?_eq_some_iff.1 hk).1
        simp at this; omega
      have hc := h7 k (by omega)
      rw [Addr.add_lit] at hc
      rw [hc]
      have e : (Z j)[k]? = some ((Z j).getD k 0) := by simp [List.getD, List.getElem?_eq_getElem (show k < (Z j).length by omega)]
      rw [List.getElem?_map, List.getElem?_take, if_pos hk', e] at hk
      simp only [Option.map_some, Option.some.injEq] at hk
      have hw := h4 ((Z j).getD k 0) (List.mem_of_getElem? e)
      have hrr : 0 ≤ (Z j).getD k 0 ∧ (Z j).getD k 0 ≤ 255 := by
        simpa [Lit.wf, IntKind.min, IntKind.max, IntKind.bits, IntKind.signed] using hw
      subst hk
      unfold B
      rw [UInt8.toNat_ofNat']
      congr 2
      omega
end
end Go.Proofs.YtddemlajfbagdaaDoor
