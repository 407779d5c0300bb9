/-
  Pad: the second kind of padding.
-/
import Derived.Test.YtddemlajfbagdaaDoorZzOpenP
import Derived.Test.YtddemlajfbagdaaDoorZzRange2
import Derived.Test.YtddemlajfbagdaaDoorZzRange2
namespace Go.Proofs.YtddemlajfbagdaaDoor
set_option maxRecDepth 100000
open Go.RowKit
attribute [local go_sem] Oper.semAt_some

theorem notNil8 (caps : Array Value) (w : World) : (binOp .eql 43 (.func (.func 46) #[] caps) .nilFunc).run Tryd.prog w = .ok (.bool false) w := by kernel_rfl
def EcRes (w : World) (bx bp cnt : Nat) (A2 : Option Addr) (m2 c2 : Nat) (rr : List UInt8) (r : List UInt8 × Int × Nat) (e : Ending) (w' : World) : Prop := ∃ A n c, e = .returned (.tuple #[.slice A n c, .int .i64 r.2.1]) ∧ Rd w' A n c r.1 ∧ G8 bx bp cnt A2 m2 c2 rr r.2.2 w' ∧ Turn [cnt] w w'
/-- What stands between two rounds: so many bytes were asked for, and P is what is kept of them. -/
structure E1I (w : World) (X cnt K : Nat) (t2 : Int) (r : List UInt8) (j : Nat) (A' : Option Addr) (n' c' : Nat) (P : List UInt8) (W : World) : Prop where
  o : Blk W (X + 1) 22 #[.slice A' n' c']
  s : Blk W (X + 2) 3 #[.int .i64 t2]
  own : Own W X (.slice A' n' c') ([0, 2] ++ P)
  ne : ∀ g, (Value.slice A' n' c').ownBlock = some g → g ≠ X + 3 ∧ g ≠ X + 4
  tn : Turn [cnt] w W
  nz : nzT K r = (P ++ (nzT (K - P.length) (r.drop j)).1, j + (nzT (K - P.length) (r.drop j)).2)
section
variable {w W W2 W9 : World} {X cnt K j n' c' : Nat} {t2 : Int} {r P : List UInt8} {A' : Option Addr}
theorem E1I.turn (h : E1I w X cnt K t2 r j A' n' c' P W) (hX : w.heap.size = X) (hc : cnt < X) {S : List Nat} (ht : Turn S W W2) (hS : ∀ x ∈ S, x = cnt ∨ x = X + 4) : E1I w X cnt K t2 r j A' n' c' P W2 := by
  refine ⟨h.o.turn ht (fun hm => by have := hS _ hm; omega), h.s.turn ht (fun hm => by have := hS _ hm; omega), h.own.turn ht (fun g hg hm => ?_), h.ne, h.tn.trans ht (fun x hx => ?_), h.nz⟩
  · have h1 := (h.own.lt hg).1
    have h2 := (h.ne g hg).2
    have := hS _ hm
    omega
  · rcases hS x hx with h | h
    · exact .inl (by simp [h])
    · exact .inr (by omega)
theorem E1I.zero (h : E1I w X cnt K t2 r j A' n' c' P W) (hlt : P.length < K) (hx : r[j]? = some 0) : E1I w X cnt K t2 r (j + 1) A' n' c' P W := by
  refine ⟨h.o, h.s, h.own, h.ne, h.tn, ?_⟩
  obtain ⟨q, hq⟩ : ∃ q, K - P.length = q + 1 := ⟨K - P.length - 1, by omega⟩
  have hj := (List.getElem?_eq_some_iff.1 hx).1
  have hdr : r.drop j = 0 :: r.drop (j + 1) := by rw [List.drop_eq_getElem_cons hj, (List.getElem?_eq_some_iff.1 hx).2]
  rw [h.nz, hdr, hq, nzT_zero]
  exact Prod.ext rfl (by dsimp only; omega)
theorem E1I.next (h : E1I w X cnt K t2 r j A' n' c' P W) (hX : w.heap.size = X) (hc : cnt < X) (hWX : X + 4 < W.heap.size) (hlt : P.length < K) {x : UInt8} (hx : r[j]? = some x) (h0 : x ≠ 0) {o : Obj} {A4 : Option Addr} {n4 c4 : Nat} (hG : Grew X (W.alloc o) W9 (.slice A' n' c') A4 n4 c4 (([0, 2] ++ P) ++ [x])) :
    E1I w X cnt K t2 r (j + 1) A4 n4 c4 (P ++ [x]) (W9.setCell ⟨X + 1, 0, none⟩ (.slice A4 n4 c4)) ∧ ∃ S, Turn S W (W9.setCell ⟨X + 1, 0, none⟩ (.slice A4 n4 c4)) ∧ ∀ y ∈ S, X ≤ y ∧ y ≠ X + 3 ∧ y ≠ X + 4 := by
  have hTg : Turn (Value.slice A' n' c').ownBlock.toList (W.alloc o) W9 := Turn.of_grown hG.grown
  have hT9 : Turn (Value.slice A' n' c').ownBlock.toList W W9 := ((Turn.refl _ W).alloc o).trans hTg (fun x hx => .inl hx)
  have hbig : ∀ y ∈ (Value.slice A' n' c').ownBlock.toList, X ≤ y ∧ y ≠ X + 3 ∧ y ≠ X + 4 := fun y hy => by
    have hy' : (Value.slice A' n' c').ownBlock = some y := by simpa using hy
    exact ⟨(h.own.lt hy').1, h.ne y hy'⟩
  have n1 : ∀ y ∈ (Value.slice A' n' c').ownBlock.toList, y ≠ X + 1 := fun y hy e => by
    have hy' : (Value.slice A' n' c').ownBlock = some y := by simpa using hy
    rw [e] at hy'
    exact h.own.ne h.o (by decide) hy'
  have n2 : ∀ y ∈ (Value.slice A' n' c').ownBlock.toList, y ≠ X + 2 := fun y hy e => by
    have hy' : (Value.slice A' n' c').ownBlock = some y := by simpa using hy
    rw [e] at hy'
    exact h.own.ne h.s (by decide) hy'
  have hTO : Turn [X + 1] W9 (W9.setCell ⟨X + 1, 0, none⟩ (.slice A4 n4 c4)) := (Turn.refl _ _).setCell (.inl (by simp)) _
  have hT : Turn ((X + 1) :: (Value.slice A' n' c').ownBlock.toList) W (W9.setCell ⟨X + 1, 0, none⟩ (.slice A4 n4 c4)) := (hT9.more (fun x hx => List.mem_cons_of_mem _ hx)).setCell (.inl (by simp)) _
  have hO9 := h.o.turn hT9 (fun hm => n1 _ hm rfl)
  have hS9 := h.s.turn hT9 (fun hm => n2 _ hm rfl)
  have hz : (W.alloc o).heap.size = W.heap.size + 1 := by simp
  refine ⟨⟨hO9.set_ 0 _, hS9.turn hTO (by simp), ?_, ?_, ?_, ?_⟩, _, hT, fun y hy => ?_⟩
  · have := hG.own.turn hTO (fun g hg => by
      have hne := hG.own.ne hO9 (by decide)
      intro hm
      simp at hm
      rw [hm] at hg
      exact hne hg)
    rwa [List.append_assoc] at this
  · intro g hg
    rcases hG.at_ with h2 | h2
    · rw [h2] at hg; exact h.ne g hg
    · rw [h2] at hg; cases hg; omega
  · exact h.tn.trans hT (fun y hy => .inr (by
      rcases List.mem_cons.1 hy with e | hy
      · omega
      · have := (hbig y hy).1; omega))
  · obtain ⟨q, hq⟩ : ∃ q, K - P.length = q + 1 := ⟨K - P.length - 1, by omega⟩
    have hj := (List.getElem?_eq_some_iff.1 hx).1
    have hdr : r.drop j = x :: r.drop (j + 1) := by rw [List.drop_eq_getElem_cons hj, (List.getElem?_eq_some_iff.1 hx).2]
    rw [h.nz, hdr, hq, nzT_some q x _ h0, show K - (P ++ [x]).length = q by rw [List.length_append, List.length_singleton]; omega]
    exact Prod.ext (by simp) (by dsimp only; omega)
  · rcases List.mem_cons.1 hy with e | hy
    · omega
    · exact hbig y hy
end
theorem wpListIn_app8 {ops : Array Oper} {rest : List Oper} {o : Oper} {a : Act} {w : World} {Q : Exit → Act → World → Prop} {n l' : Nat} (s x : Operand) (base : Nat) (v : Value) (l : List UInt8) (hown : Own w base v l) (hbase : base ≤ w.heap.size)
    (A : Option Addr) (m c : Nat) (l2 : List UInt8) (hrd : Rd w A m c l2) (hlen : l.length + l2.length ≤ 140737488355328) (hgd : o.guard = none)
    (ho : o.op = .call { callee := .builtin .append, args := #[s, x], argTypes := #[22, 22] }) (hs : a.eval s = v) (hx : a.eval x = .slice A m c)
    (h : ∀ (A' : Option Addr) (n' c' : Nat) (w' : World), (n' : Int) ≤ 9223372036854775807 → Grew base w w' v A' n' c' (l ++ l2) → wpListIn (Fence.wide.inRound l') n Tryd.prog ops Q rest (a.put o.dst (.slice A' n' c')) w') : wpListIn (Fence.wide.inRound l') n Tryd.prog ops Q (o :: rest) a w :=
  wpListIn_plain hgd fun _ hK => oper_round (by rw [ho]; intro c hc'; cases hc') (op_app s x ho base v l hs hown A m c l2 hx hrd hlen hbase fun v' w' h1 h2 h3 h4 => by
    obtain ⟨A', n', c', rfl, hn, hg⟩ := grew_of hown hbase h1 h2 h3 h4
    exact hK _ _ (h _ _ _ _ hn hg))
set_option maxHeartbeats 8000000 in
theorem enc1_any (n : Int) (A1 A2 : Option Addr) (bx bp cnt m1 c1 m2 c2 : Nat) (msg r : List UInt8) (w : World) (h1 : Rd w A1 m1 c1 msg) (hG0 : G8 bx bp cnt A2 m2 c2 r 0 w) (hf : ∀ ad, A1 = some ad → ad.block < cnt) (hn : n ≤ 200 ∨ 65536 < n) (hn0 : -9223372036854775808 ≤ n) (hm1 : m1 ≤ 1000) (hm2 : m2 ≤ 1000) :
    Calls Tryd.prog 26 #[.int .i64 n, .slice A1 m1 c1, .func (.func 46) #[] #[.pointer (some ⟨bx, 0, none⟩), .pointer (some ⟨bp, 0, none⟩)]] w (EcRes w bx bp cnt A2 m2 c2 r (enc1F n msg r)) := by
  have hl1 := h1.1
  have hnn := notNil8 #[.pointer (some ⟨bx, 0, none⟩), .pointer (some ⟨bp, 0, none⟩)] w
  unfold enc1F
  rw [← hl1]
  by_cases d1 : 65536 < n
  · rw [if_pos d1]
    have c1i : n > 65536 := d1
    have b1 : decide (n > 65536) = true := decide_eq_true d1
    clear h1 hl1 hf
    refine calls_of_marks Tryd.func26 rfl ?_
    simp only [Tryd.ntmps26, List.size_toArray, List.length_cons, List.length_nil, Nat.reduceAdd, Nat.reduceSub, Array.replicate_succ, Array.replicate_zero, List.push_toArray, List.append_toArray, List.nil_append, List.cons_append]
    go_wp2_with fail
    refine wp_scope_straight ?_
    go_wp2_with fail

    simp only [Exit.noGoto_ret]
    refine ret_bare rfl (results_tmp2 rfl _ _ _) ?_
    exact ⟨none, 0, 0, rfl, Rd.nil _, hG0, Turn.refl _ _⟩
  · rw [if_neg d1]
    have c1i : ¬ n > 65536 := d1
    have b1 : decide (n > 65536) = false := decide_eq_false d1
    by_cases d2 : n < 11
    · rw [if_pos (.inl d2)]
      have b2 : decide (n < 11) = true := decide_eq_true d2
      clear h1 hl1 hf
      refine calls_of_marks Tryd.func26 rfl ?_
      simp only [Tryd.ntmps26, List.size_toArray, List.length_cons, List.length_nil, Nat.reduceAdd, Nat.reduceSub, Array.replicate_succ, Array.replicate_zero, List.push_toArray, List.append_toArray, List.nil_append, List.cons_append]
      go_wp2_with fail
      refine wp_scope_straight ?_
      go_wp2_with fail

      simp only [Exit.noGoto_ret]
      refine ret_bare rfl (results_tmp2 rfl _ _ _) ?_
      exact ⟨none, 0, 0, rfl, Rd.nil _, hG0, Turn.refl _ _⟩
    · have b2 : decide (n < 11) = false := decide_eq_false d2
      obtain ⟨t0, ht0⟩ : ∃ x, n - 11 = x := ⟨_, rfl⟩
      have ht0w : IntKind.i64.wrap t0 = t0 := IntWalk.i64_in _ (by omega)
      rw [ht0]
      by_cases d3 : t0 < (m1 : Int)
      · rw [if_pos (.inr d3)]
        have c3i : (m1 : Int) > t0 := d3
        have b3 : decide ((m1 : Int) > t0) = true := decide_eq_true d3
        clear h1 hl1 hf
        refine calls_of_marks Tryd.func26 rfl ?_
        simp only [Tryd.ntmps26, List.size_toArray, List.length_cons, List.length_nil, Nat.reduceAdd, Nat.reduceSub, Array.replicate_succ, Array.replicate_zero, List.push_toArray, List.append_toArray, List.nil_append, List.cons_append]
        go_wp2_with fail
        refine wp_scope_straight ?_
        go_wp2_with fail

        simp only [Exit.noGoto_ret]
        refine ret_bare rfl (results_tmp2 rfl _ _ _) ?_
        exact ⟨none, 0, 0, rfl, Rd.nil _, hG0, Turn.refl _ _⟩
      · rw [if_neg (fun h => h.elim d2 d3)]
        have c3i : ¬ (m1 : Int) > t0 := d3
        have b3 : decide ((m1 : Int) > t0) = false := decide_eq_false d3
        obtain ⟨K, hK⟩ := Int.eq_ofNat_of_zero_le (show 0 ≤ n - 3 - (m1 : Int) by omega)
        obtain ⟨t1, ht1⟩ : ∃ x, n - 1 = x := ⟨_, rfl⟩
        have ht1w : IntKind.i64.wrap t1 = t1 := IntWalk.i64_in _ (by omega)
        obtain ⟨t2, ht2⟩ : ∃ x, t1 - (m1 : Int) = x := ⟨_, rfl⟩
        have ht2w : IntKind.i64.wrap t2 = t2 := IntWalk.i64_in _ (by omega)
        have hKn : n.toNat - 3 - m1 = K := by omega
        rw [hKn]
        have ht2K : t2 = (K : Int) + 2 := by omega
        have hKb : K + m1 + 3 ≤ 200 := by omega
        have hK8 : 8 ≤ K := by omega
        obtain ⟨RS, hRS⟩ : ∃ R, (if (nzT K r).1.length < K then ([], 5, (nzT K r).2) else ([0, 2] ++ (nzT K r).1 ++ 0 :: msg, 0, (nzT K r).2) : List UInt8 × Int × Nat) = R := ⟨_, rfl⟩
        rw [hRS]
        have hA1 : ∀ P j, nzT K r = (P, j) → P.length < K → RS = ([], 5, j) := fun P j h h1 => by rw [← hRS, h, if_pos h1]
        have hA2 : ∀ P j, nzT K r = (P, j) → P.length = K → RS = ([0, 2] ++ P ++ 0 :: msg, 0, j) := fun P j h h1 => by rw [← hRS, h, if_neg (by rw [h1]; exact Nat.lt_irrefl _)]
        have HH := Lib.hid (And.intro h1 (And.intro hG0 (And.intro hA1 (And.intro hA2 (And.intro ht2K (And.intro hKb (And.intro hl1 (And.intro hK8 (And.intro hm2 hf)))))))))
        clear h1 hG0 hA1 hA2 ht2K hKb hl1 hm1 hm2 hn hn0 hK hKn hRS hK8 hf

        refine calls_of_marks Tryd.func26 rfl ?_
        simp only [Tryd.ntmps26, List.size_toArray, List.length_cons, List.length_nil, Nat.reduceAdd, Nat.reduceSub, Array.replicate_succ, Array.replicate_zero, List.push_toArray, List.append_toArray, List.nil_append, List.cons_append]
        go_wp2_with fail
        refine wp_scope_straight ?_
        go_wp2_with fail

        refine wp_label ?_
        go_wp2_with fail
        obtain ⟨X, hX⟩ : ∃ X, w.heap.size = X := ⟨_, rfl⟩
        rw [hX]
        obtain ⟨w3, hw3⟩ : ∃ w3, ((w.alloc (.cells #[.int .u8 0, .int .u8 2] 5)).alloc (.cells #[.slice (some ⟨X, 0, none⟩) 2 2] 22)).alloc (.cells #[.int .i64 t2] 3) = w3 := ⟨_, rfl⟩
        rw [hw3]
        have hz3 : w3.heap.size = X + 3 := by rw [← hw3]; simp [hX]
        have hbx := HH.out.2.1.b1.lt
        have hbp := HH.out.2.1.b2.lt
        have hcnt := HH.out.2.1.b3.lt
        rw [hX] at hbx hbp hcnt
        have hA2X : ∀ ad, A2 = some ad → ad.block < X := fun ad ha => by have := HH.out.2.1.far ad ha; omega
        have hE0 : E1I w X cnt K t2 r 0 (some ⟨X, 0, none⟩) 2 2 [] w3 := by
          refine ⟨?_, ?_, ?_, fun g hg => by cases hg; dsimp only; omega, ?_, by simp⟩
          · rw [← hw3]
            have := Blk.new (w.alloc (.cells #[.int .u8 0, .int .u8 2] 5)) 22 #[.slice (some ⟨X, 0, none⟩) 2 2]
            rw [World.size_alloc, hX] at this
            exact this.alloc _
          · rw [← hw3]
            have := Blk.new ((w.alloc (.cells #[.int .u8 0, .int .u8 2] 5)).alloc (.cells #[.slice (some ⟨X, 0, none⟩) 2 2] 22)) 3 #[.int .i64 t2]
            rw [World.size_alloc, World.size_alloc, hX] at this
            exact this
          · have h1 := own_new w [0, 2] #[.int .u8 0, .int .u8 2] 2 rfl rfl (by decide)
            rw [hX] at h1
            rw [← hw3]
            exact (h1.alloc_ _).alloc_ _
          · rw [← hw3]; exact (((Turn.refl _ _).alloc _).alloc _).alloc _
        have hG3 : G8 bx bp cnt A2 m2 c2 r 0 w3 := HH.out.2.1.turn (S := []) (by rw [← hw3]; exact (((Turn.refl _ _).alloc _).alloc _).alloc _) (by simp)
        have H3 := Lib.hid (And.intro hE0 (And.intro hG3 (And.intro hz3 (And.intro hX (And.intro hbx (And.intro hbp (And.intro hcnt hA2X)))))))
        clear hE0 hG3 hw3 hbx hbp hcnt hA2X
        have hzs : X + 3 = w3.heap.size := hz3.symm
        have hfinal : ∀ W : World, Turn [cnt] w W → ∀ k, G8 bx bp cnt A2 m2 c2 r k W → Turn [cnt] w (W.putObj w3.heap.size (.deferred none)) ∧ G8 bx bp cnt A2 m2 c2 r k (W.putObj w3.heap.size (.deferred none)) := fun W h1 k h2 => by
          have hT : Turn [w3.heap.size] W (W.putObj w3.heap.size (.deferred none)) := (Turn.refl _ _).putObj (.inl (by simp)) _
          refine ⟨h1.trans hT (fun x hx => .inr ?_), h2.turn hT (fun x hx => ?_)⟩
          · have h4 : x = w3.heap.size := by simpa using hx
            omega
          · have h4 : x = w3.heap.size := by simpa using hx
            have h5 := H3.out.2.2.2.2
            exact ⟨by omega, by omega, by omega, fun ad ha => by have := h5.2.2.2 ad ha; omega⟩
        have HFin := Lib.hid hfinal
        clear hfinal
        refine wp_rangeF1 10 0 (gf := 46) (lb := #[.pointer (some ⟨bx, 0, none⟩), .pointer (some ⟨bp, 0, none⟩)]) (T := [cnt]) rfl (fun _ _ => by kernel_rfl)
          (given8_iter bx bp cnt A2 m2 c2 r (by have := HH.out.2.2.2.2.2.2.2.2.1; omega)) (fun k args W h => by obtain ⟨x, rfl, _⟩ := h; rfl) (by simp; have := H3.out.2.2.2.2.2.2.1; omega)
          (fun j W => ∃ (A' : Option Addr) (n' c' : Nat) (P : List UInt8), E1I w X cnt K t2 r j A' n' c' P W ∧ P.length < K)
          (fun cc j W => cc = .exit 1 ∧ ∃ (A' : Option Addr) (n' c' : Nat) (P : List UInt8), E1I w X cnt K t2 r (j + 1) A' n' c' P W ∧ P.length = K ∧ G8 bx bp cnt A2 m2 c2 r (j + 1) W)
          ?hI ?hIx ?hF ?hM ?hA ⟨_, _, _, [], H3.out.1, by have := HH.out.2.2.2.2.2.2.2.1; simp; omega⟩ ?hM1 ?hassign ?hbody ?hdone ?hstop
        case hI =>
          rintro j W1 W2 S ⟨A', n', c', P, h, hP⟩ ht hS
          refine ⟨A', n', c', P, h.turn H3.out.2.2.2.1 H3.out.2.2.2.2.2.2.1 ht (fun t hm => ?_), hP⟩
          rcases hS t hm with h | ⟨h, _⟩
          · exact .inl (by simpa using h)
          · exact .inr (by omega)
        case hIx =>
          rintro cc j W1 W2 S ⟨hc, A', n', c', P, h, hP, hG⟩ ht hS
          refine ⟨hc, A', n', c', P, h.turn H3.out.2.2.2.1 H3.out.2.2.2.2.2.2.1 ht (fun t hm => .inr (by have := (hS t hm).1; omega)), hP, hG.turn ht (fun x hx => ?_)⟩
          have h1 := (hS x hx).1
          have h2 := H3.out.2.2.2.2
          exact ⟨by omega, by omega, by omega, fun ad ha => by have := h2.2.2.2 ad ha; omega⟩
        case hF =>
          rintro W1 W2 hG _ ht
          refine hG.turn ht (fun x hx => ?_)
          have h1 : x = w3.heap.size + 1 := by simpa using hx
          have h2 := H3.out.2.2.2.2
          exact ⟨by omega, by omega, by omega, fun ad ha => by have := h2.2.2.2 ad ha; omega⟩
        case hM =>
          rintro j W1 W2 hG _ ht
          refine hG.turn ht (fun x hx => ?_)
          have h1 : x = w3.heap.size + 1 := by simpa using hx
          have h2 := H3.out.2.2.2.2
          exact ⟨by omega, by omega, by omega, fun ad ha => by have := h2.2.2.2 ad ha; omega⟩
        case hA =>
          rintro j args W1 W2 h _ _
          exact h
        case hM1 =>
          intro W ht
          exact H3.out.2.1.turn ht (by simp)
        case hassign =>
          rintro l' args j W K' ⟨x, rfl, _⟩ hK'
          simp at hK'
          gi_wp2
          exact hK'
        case hbody =>
          rintro l' k args W hkN hlt ⟨A', n', c', P, hE, hP⟩ hMi ⟨x, rfl, hx⟩
          have cO := hE.o.cell 0
          have cS := hE.s.cell 0
          simp only [List.getElem?_toArray, List.getElem?_cons_zero] at cO cS
          have hnl := hE.own.len
          rw [List.length_append] at hnl
          simp only [List.length_cons, List.length_nil] at hnl
          have hWX : X + 4 < W.heap.size := by omega
          by_cases e0 : x = 0
          · have b0 : isN x 0 = true := by rw [e0]; rfl
            rw [e0] at hx
            have HX := Lib.hid (And.intro (hE.zero hP hx) (And.intro hP hMi))
            clear hE hP hMi hx hnl cO cS e0 hWX hkN
            gi_wp2
            exact ⟨⟨[], Turn.refl _ _, by simp, by simp⟩, ⟨_, _, _, P, HX.out.1, HX.out.2.1⟩, HX.out.2.2⟩
          · have b0 : isN x 0 = false := by unfold isN; simp only [beq_eq_false_iff_ne]; exact fun h => e0 (UInt8.toNat_inj.1 (by exact_mod_cast h))
            have hKb := HH.out.2.2.2.2.2.1
            have hKt := HH.out.2.2.2.2.1
            have hfin : ∀ (W9 : World) (A4 : Option Addr) (n4 c4 : Nat), Grew X (W.alloc (.cells #[B x] 5)) W9 (.slice A' n' c') A4 n4 c4 (([0, 2] ++ P) ++ [x]) →
                E1I w X cnt K t2 r (k + 1) A4 n4 c4 (P ++ [x]) (W9.setCell ⟨X + 1, 0, none⟩ (.slice A4 n4 c4)) ∧ KeepsTwo w3.heap.size W (W9.setCell ⟨X + 1, 0, none⟩ (.slice A4 n4 c4)) ∧ G8 bx bp cnt A2 m2 c2 r (k + 1) (W9.setCell ⟨X + 1, 0, none⟩ (.slice A4 n4 c4)) := fun W9 A4 n4 c4 hG => by
              obtain ⟨h1, S, h2, h3⟩ := hE.next H3.out.2.2.2.1 H3.out.2.2.2.2.2.2.1 hWX hP hx e0 hG
              refine ⟨h1, ⟨S, h2, fun hm => by have := h3 _ hm; omega, fun hm => by have := h3 _ hm; omega⟩, hMi.turn h2 (fun y hy => ?_)⟩
              have h4 := (h3 y hy).1
              have h5 := H3.out.2.2.2.2
              exact ⟨by omega, by omega, by omega, fun ad ha => by have := h5.2.2.2 ad ha; omega⟩
            have HX := Lib.hid (And.intro hE (And.intro hP (And.intro hfin (And.intro hWX (show P.length ≤ 1000 by omega)))))
            clear hE hMi hx hfin hWX hkN e0
            have hs : ∀ (W9 : World) (A4 : Option Addr) (n4 c4 : Nat), Grew X (W.alloc (.cells #[B x] 5)) W9 (.slice A' n' c') A4 n4 c4 (([0, 2] ++ P) ++ [x]) → (n4 = P.length + 3) ∧ W9.cell? ⟨X + 1, 0, none⟩ = some (.slice A' n' c') ∧ W9.frozen? ⟨X + 1, 0, none⟩ = false ∧ W9.cell? ⟨X + 2, 0, none⟩ = some (.int .i64 t2) := fun W9 A4 n4 c4 hG => by
              have hT9 : Turn (Value.slice A' n' c').ownBlock.toList W W9 := ((Turn.refl _ W).alloc _).trans (Turn.of_grown hG.grown) (fun x hx => .inl hx)
              have hO9 := HX.out.1.o.turn hT9 (fun hm => HX.out.1.own.ne HX.out.1.o (by decide) (by simpa using hm))
              have hS9 := HX.out.1.s.turn hT9 (fun hm => HX.out.1.own.ne HX.out.1.s (by decide) (by simpa using hm))
              have c9 := hO9.cell 0
              have d9 := hS9.cell 0
              simp only [List.getElem?_toArray, List.getElem?_cons_zero] at c9 d9
              exact ⟨by rw [hG.len]; simp, c9, hO9.frozen 0, d9⟩
            have HS := Lib.hid hs
            clear hs
            by_cases hlast : P.length + 1 = K
            · have ht2 : ∀ n4 : Nat, n4 = P.length + 3 → ((n4 : Int) == t2) = true := fun n4 h => by rw [beq_iff_eq]; omega
              have HT := Lib.hid (And.intro ht2 hlast)
              clear ht2 hlast hP hnl hKb hKt
              gi_wp2_with (gi_at_builtin; refine wpListIn_app8 (.tmp 38) (.tmp 40) X (.slice A' n' c') _ (HX.out.1.own.alloc_ _) (by have := HX.out.2.2.2.1; rw [World.size_alloc]; omega) _ 1 1 [x] (own_new W [x] _ 1 rfl rfl (by simp)).rd (by have := HX.out.2.2.2.2; simp; omega) rfl rfl rfl rfl ?_; intro A4 n4 c4 w9 hn9 hG9; obtain ⟨hn4, c9, f9, d9⟩ := HS.out w9 A4 n4 c4 hG9; have b9 := HT.out.1 n4 hn4; have H9 := Lib.hid (HX.out.2.2.1 w9 A4 n4 c4 hG9); clear hG9 hn4; have d9' : ∀ v, (w9.setCell ⟨X + 1, 0, none⟩ v).cell? ⟨X + 2, 0, none⟩ = some (.int .i64 t2) := fun v => by (rw [cell_far w9 0 0 v (by omega)]; exact d9))
              exact ⟨H9.out.2.1, rfl, _, _, _, _, H9.out.1, by rw [List.length_append, List.length_singleton]; exact HT.out.2, H9.out.2.2⟩
            · have ht2 : ∀ n4 : Nat, n4 = P.length + 3 → ((n4 : Int) == t2) = false := fun n4 h => by rw [beq_eq_false_iff_ne]; omega
              have HT := Lib.hid (And.intro ht2 (show P.length + 1 < K by omega))
              clear ht2 hlast hP hnl hKb hKt
              gi_wp2_with (gi_at_builtin; refine wpListIn_app8 (.tmp 38) (.tmp 40) X (.slice A' n' c') _ (HX.out.1.own.alloc_ _) (by have := HX.out.2.2.2.1; rw [World.size_alloc]; omega) _ 1 1 [x] (own_new W [x] _ 1 rfl rfl (by simp)).rd (by have := HX.out.2.2.2.2; simp; omega) rfl rfl rfl rfl ?_; intro A4 n4 c4 w9 hn9 hG9; obtain ⟨hn4, c9, f9, d9⟩ := HS.out w9 A4 n4 c4 hG9; have b9 := HT.out.1 n4 hn4; have H9 := Lib.hid (HX.out.2.2.1 w9 A4 n4 c4 hG9); clear hG9 hn4; have d9' : ∀ v, (w9.setCell ⟨X + 1, 0, none⟩ v).cell? ⟨X + 2, 0, none⟩ = some (.int .i64 t2) := fun v => by (rw [cell_far w9 0 0 v (by omega)]; exact d9))
              exact ⟨H9.out.2.1, ⟨_, _, _, _, H9.out.1, by rw [List.length_append, List.length_singleton]; exact HT.out.2⟩, H9.out.2.2⟩
        case hdone =>
          rintro W hlt ⟨A', n', c', P, hE, hP⟩ hFi hK'
          have cO := hE.o.cell 0
          have cS := hE.s.cell 0
          simp only [List.getElem?_toArray, List.getElem?_cons_zero] at cO cS
          have hnl := hE.own.len
          rw [List.length_append] at hnl
          simp only [List.length_cons, List.length_nil] at hnl
          have hKt := HH.out.2.2.2.2.1
          have hd : decide ((n' : Int) < t2) = true := decide_eq_true (by omega)
          have hdi : (n' : Int) < t2 := by omega
          have hnz2 : nzT K r = (P, m2) := by
            rw [hE.nz, List.drop_eq_nil_of_le (by rw [← hFi.rd.1]; exact Nat.le_refl _)]
            obtain ⟨q, hq⟩ : ∃ q, K - P.length = q + 1 := ⟨K - P.length - 1, by omega⟩
            rw [hq]
            simp [nzT]
          have HX := Lib.hid (And.intro (HH.out.2.2.1 P m2 hnz2 hP) (And.intro hE (And.intro hFi hK')))
          clear hE hP hFi hnl hKt hnz2 hK'
          go_wp2_with fail
          simp only [Exit.noGoto_ret]
          refine ret_mark (D := w3.heap.size) rfl HX.out.2.2.2 (fun W' => results_tmp2 rfl _ _ W') ?_
          rw [HX.out.1]
          obtain ⟨hT1, hT2⟩ := HFin.out W HX.out.2.1.tn m2 HX.out.2.2.1
          exact ⟨none, 0, 0, rfl, Rd.nil _, hT2, hT1⟩
        case hstop =>
          rintro cc k W hlt hkN ⟨rfl, A', n', c', P, hE, hP, hGk⟩ hK'
          have cO := hE.o.cell 0
          have cS := hE.s.cell 0
          simp only [List.getElem?_toArray, List.getElem?_cons_zero] at cO cS
          have hnl := hE.own.len
          rw [List.length_append] at hnl
          simp only [List.length_cons, List.length_nil] at hnl
          have hKt := HH.out.2.2.2.2.1
          have hKb := HH.out.2.2.2.2.2.1
          have hd : decide ((n' : Int) < t2) = false := decide_eq_false (by omega)
          have hdi : ¬ (n' : Int) < t2 := by omega
          have hnz2 : nzT K r = (P, k + 1) := by
            rw [hE.nz, hP, Nat.sub_self]
            simp [nzT]
          have hPb : P.length + m1 ≤ 300 := by omega
          have hR1 : Rd W A1 m1 c1 msg := HH.out.1.turn hE.tn (fun ad ha hm => by have := HH.out.2.2.2.2.2.2.2.2.2 ad ha; simp at hm; omega)
          have HX := Lib.hid (And.intro (HH.out.2.2.2.1 P (k + 1) hnz2 hP) (And.intro hE (And.intro hGk (And.intro hK' (And.intro hPb (And.intro hR1 hlt))))))
          clear hE hP hGk hnl hKt hKb hnz2 hPb hR1 hK' hlt
          go_wp2_with (at_builtin; refine wp_app_lit (.tmp 50) (.tmp 51) X _ _ HX.out.2.1.own (by have := HX.out.2.2.2.2.2.2; omega) [0] (by have := HX.out.2.2.2.2.1; simp; omega) (by simp) rfl rfl rfl rfl rfl rfl ?_; intro A5 n5 c5 w5 hn5 hG5; have H5 := Lib.hid hG5; clear hG5)
          simp only [Act.put, List.setIfInBounds_toArray, List.set_cons_zero, List.set_cons_succ]
          go_wp2_with (at_builtin; (refine wp_app2 (.tmp 52) (.tmp 53) X (.slice A5 n5 c5) _ H5.out.own (by have h1 := H5.out.below.size; have := HX.out.2.2.2.2.2.2; rw [World.size_alloc] at h1; omega) A1 m1 c1 msg (HX.out.2.2.2.2.2.1.turn (((Turn.refl _ W).alloc _).trans (Turn.of_grown H5.out.grown) (fun x hx => .inl hx)) (fun ad ha hm => by have h1 := HH.out.2.2.2.2.2.2.2.2.2 ad ha; have h2 := (HX.out.2.1.own.lt (show _ = some ad.block by simpa using hm)).1; have h3 := H3.out.2.2.2.2.2.2.1; omega)) (by have h1 := HX.out.2.2.2.2.1; have h2 := HH.out.2.2.2.2.2.2.1; simp; omega) rfl rfl rfl rfl ?_; intro A7 n7 c7 w6 hn7 hG7; have H6 := Lib.hid hG7; clear hG7))
          simp only [Act.put, List.setIfInBounds_toArray, List.set_cons_zero, List.set_cons_succ]
          go_wp2_with fail
          simp only [Exit.noGoto_ret]
          have hTw : Turn (Value.slice A' n' c').ownBlock.toList W w5 := ((Turn.refl _ W).alloc _).trans (Turn.of_grown H5.out.grown) (fun x hx => .inl hx)
          have hb1 : ∀ y ∈ (Value.slice A' n' c').ownBlock.toList, X ≤ y ∧ y ≠ X + 3 := fun y hy => by
            have hy' : (Value.slice A' n' c').ownBlock = some y := by simpa using hy
            exact ⟨(HX.out.2.1.own.lt hy').1, (HX.out.2.1.ne y hy').1⟩
          have hb2 : ∀ y ∈ (Value.slice A5 n5 c5).ownBlock.toList, X ≤ y ∧ y ≠ X + 3 := fun y hy => by
            have hy' : (Value.slice A5 n5 c5).ownBlock = some y := by simpa using hy
            refine ⟨(H5.out.own.lt hy').1, ?_⟩
            rcases H5.out.at_ with h2 | h2
            · rw [h2] at hy'; exact (HX.out.2.1.ne y hy').1
            · rw [h2, World.size_alloc] at hy'
              have h9 := HX.out.2.2.2.2.2.2
              cases hy'
              omega
          have hTw6 : Turn ((Value.slice A' n' c').ownBlock.toList ++ (Value.slice A5 n5 c5).ownBlock.toList) W w6 := (hTw.more (fun x hx => List.mem_append_left _ hx)).trans (Turn.of_grown H6.out.grown) (fun x hx => .inl (List.mem_append_right _ hx))
          have hbb : ∀ y ∈ (Value.slice A' n' c').ownBlock.toList ++ (Value.slice A5 n5 c5).ownBlock.toList, X ≤ y ∧ y ≠ X + 3 := fun y hy => by
            rcases List.mem_append.1 hy with hy | hy
            · exact hb1 y hy
            · exact hb2 y hy
          have hD6 := (hTw6.block w3.heap.size (by have := HX.out.2.2.2.2.2.2; omega) (fun hm => by have := (hbb _ hm).2; omega)).trans HX.out.2.2.2.1
          have hTn6 : Turn [cnt] w w6 := HX.out.2.1.tn.trans hTw6 (fun x hx => .inr (by have h1 := (hbb x hx).1; have h2 := H3.out.2.2.2.1; omega))
          have hG6 : G8 bx bp cnt A2 m2 c2 r (k + 1) w6 := HX.out.2.2.1.turn hTw6 (fun x hx => by
            have h4 := (hbb x hx).1
            have h5 := H3.out.2.2.2.2
            exact ⟨by omega, by omega, by omega, fun ad ha => by have := h5.2.2.2 ad ha; omega⟩)
          obtain ⟨hT1, hT2⟩ := HFin.out w6 hTn6 (k + 1) hG6
          refine ret_mark (D := w3.heap.size) rfl hD6 (fun W' => results_tmp2 rfl _ _ W') ?_
          rw [HX.out.1]
          refine ⟨_, _, _, rfl, ?_, hT2, hT1⟩
          have hT9 : Turn [w3.heap.size] w6 (w6.putObj w3.heap.size (.deferred none)) := (Turn.refl _ _).putObj (.inl (by simp)) _
          have := H6.out.own.rd.turn hT9 (fun ad ha hm => ?_)
          · simpa using this
          · have h1 : ad.block = w3.heap.size := by simpa using hm
            obtain ⟨g, cg, e⟩ := H6.out.own.form (by intro e; have := H6.out.nil e; simp at this)
            injection e with e1 e2 e3
            rw [e1] at ha
            cases ha
            dsimp only at h1
            subst e1
            rcases H6.out.at_ with h2 | h2
            · exact (hb2 g (by rw [← h2]; simp [Value.ownBlock])).2 (by omega)
            · have h3 : g = w5.heap.size := by injection h2 with h2
              have h4 := H5.out.below.size
              rw [World.size_alloc] at h4
              have := HX.out.2.2.2.2.2.2
              omega
end Go.Proofs.YtddemlajfbagdaaDoor
