/-
  The reference's sessions: Close, State.
-/
import Derived.Test.YtnpncbpbeikcaaaSesR3
namespace Go.Proofs.Ytnpncbpbeikcaaa
open Go.RowKit Go.Maps

def isS (conn hh : Int) (x : PS) : Bool := decide (x.h = hh ∧ x.c = conn)
def RP.closeW (R : RP) (conn hh : Int) : Int × RP :=
  match R.l.find? (fun x => decide (x.h = hh ∧ x.c = conn)) with
  | none => (179, R)
  | some x => (0, if rhas (R.l.eraseP (fun x => decide (x.h = hh ∧ x.c = conn))) conn x.s = true then ⟨R.l.eraseP (fun x => decide (x.h = hh ∧ x.c = conn)), R.next, R.who⟩ else RP.out ⟨R.l.eraseP (fun x => decide (x.h = hh ∧ x.c = conn)), R.next, R.who⟩ conn x.s)
theorem rchain {B r : Nat} {S S1 : List Nat} {w wE w' : World} {R' : RP} (hin : InOr S S1 w.heap.size) (ht : Turn S w wE) (h : ∃ S', Rb w' B r S' R' ∧ Turn S1 wE w' ∧ InOr S1 S' wE.heap.size) : ∃ S', Rb w' B r S' R' ∧ Turn S w w' ∧ InOr S S' w.heap.size := by
  obtain ⟨S', h1, h2, h3⟩ := h
  exact ⟨S', h1, ht.trans h2 hin, fun x hx => by
    rcases h3 x hx with h | h
    · exact hin x h
    · exact .inr (Nat.le_trans ht.size h)⟩
set_option maxRecDepth 100000 in
set_option maxHeartbeats 4000000 in
theorem rclose_any (B r : Nat) (S : List Nat) (R : RP) (conn hh : Int) (w : World) (h : Rb w B r S R) :
    Calls Try.prog 11 #[.pointer (some ⟨r, 0, none⟩), .int .i64 conn, .int .i64 hh] w (RDid B r S w (.int .i64 (R.closeW conn hh).1) (R.closeW conn hh).2) := by
  have h0 := h
  have hf := rfind_any B r S R conn hh w h
  obtain ⟨A, m, c, A2, m2, c2, hR, hS⟩ := h
  obtain ⟨q0, q1, q2⟩ := hR.cells
  have hm : m ≤ 1000 := by rw [hR.row.len]; exact hR.s1
  have H := Lib.hid (And.intro hR (And.intro hS (And.intro h0 hf)))
  clear hR hS h0 hf
  go_enter Try.func11, Try.ntmps11
  go_wp2_with fail
  refine H.out.2.2.2.mono ?_
  rintro e w1 ⟨⟨v, rfl, hv⟩, rfl⟩
  rcases hv with ⟨rfl, hn⟩ | ⟨k, x, rfl, hx, hs, he⟩
  · have HN := Lib.hid hn
    clear hn
    go_wp2_with fail
    go_ret
    have hr : R.closeW conn hh = (179, R) := by unfold RP.closeW; rw [HN.out]
    rw [hr]
    exact RDid.same H.out.2.2.1 (Below.refl _ _)
  · have hkm : k < m := by rw [H.out.1.row.len]; exact (List.getElem?_eq_some_iff.1 hx).1
    have hmc := H.out.1.row.max
    obtain ⟨g, off, hAe, c0, c1, c2', c3⟩ := rsess_at H.out.1.row.rd hx
    subst hAe
    have hk0 : ¬ ((k : Int) < 0) := by omega
    have hk0d : decide ((k : Int) < 0) = false := decide_eq_false hk0
    have hkm' : (k : Int) < (m : Int) := by omega
    have hkc : (k : Int) ≤ (c : Int) := by have := hmc.2.1; omega
    have hw1 : IntKind.i64.wrap ((k : Int) + 1) = (k : Int) + 1 := IntWalk.i64_in _ (by omega)
    have hs1 : ∀ w', (Instr.slice 27 (.slice (some ⟨g, off, none⟩) m c) none (some (.int .i64 (k : Int))) none).run Try.prog w' = .ok (.slice (some ⟨g, off, none⟩) k c) w' := fun w' => slice_toE Try.eR _ m c k (by have := hmc.2.1; omega) w'
    obtain ⟨A3, hA3⟩ : ∃ A3, (if c = k + 1 then some ⟨g, off, none⟩ else (some (⟨g, off, none⟩ : Addr)).map (·.add ((k + 1) * Try.eR.sz))) = A3 := ⟨_, rfl⟩
    have hrd3 : RdC Try.eR w A3 (m - (k + 1)) (R.l.drop (k + 1)) := by rw [← hA3]; exact H.out.1.row.rd.drop c (k + 1) (by omega) hmc.2.1
    have hn3 : A3 = none → c - (k + 1) = 0 := fun e => by rw [← hA3] at e; split at e <;> cases e
    have hs2 : ∀ w', (Instr.slice 27 (.slice (some ⟨g, off, none⟩) m c) (some (.int .i64 ((k : Int) + 1))) none none).run Try.prog w' = .ok (.slice A3 (m - (k + 1)) (c - (k + 1))) w' := fun w' => by
      have := slice_fromE Try.eR (some ⟨g, off, none⟩) m c (k + 1) (by omega) w'
      rw [hA3] at this
      exact this
    obtain ⟨n3, hn3'⟩ : ∃ n3, m - (k + 1) = n3 := ⟨_, rfl⟩
    obtain ⟨k3, hk3'⟩ : ∃ k3, c - (k + 1) = k3 := ⟨_, rfl⟩
    rw [hn3'] at hrd3 hs2
    rw [hk3'] at hs2 hn3
    obtain ⟨X, hX⟩ : ∃ X, w.heap.size = X := ⟨_, rfl⟩
    obtain ⟨wA, hwA⟩ : ∃ wA, w.alloc (.cells #[.int .i64 x.h, .int .i64 x.c, .int .i64 x.s, .bool x.rw] 61) = wA := ⟨_, rfl⟩
    have bA : Blk wA X 61 #[.int .i64 x.h, .int .i64 x.c, .int .i64 x.s, .bool x.rw] := by rw [← hwA, ← hX]; exact Blk.new _ _ _
    have hbA : Below w.heap.size w wA := by rw [← hwA]; exact (Below.refl _ _).alloc (Nat.le_refl _) _
    have hsA : wA.heap.size = X + 1 := by rw [← hwA, ← hX]; simp
    have HX := Lib.hid (And.intro hx (And.intro hs (And.intro he (And.intro hX hsA))))
    have HA := Lib.hid (And.intro (H.out.1.below hbA) (And.intro bA (And.intro hbA (And.intro (hrd3.below hbA) hn3))))
    obtain ⟨q0, q1, q2⟩ := HA.out.1.cells
    clear hx hs he hsA hn3 hrd3 hbA bA hn3' hk3' hA3 hmc
    have hl1 : (R.l.take k).length ≤ 1000 := Nat.le_trans (List.length_take_le _ _) (by omega)
    have hl2 : (R.l.drop (k + 1)).length ≤ 1000 := by rw [List.length_drop]; have := H.out.1.s1; omega
    have HLn := Lib.hid (And.intro hl1 hl2)
    clear hl1 hl2
    go_wp2_with (at_builtin; first
      | (refine wp_appE Try.eR (.const (.slice none 0 0)) (.tmp 28) (X + 1) (.slice none 0 0) [] (OwnE.nil _ _) (by rw [HX.out.2.2.2.2]; exact Nat.le_refl _) (some ⟨g, off, none⟩) k c (R.l.take k) (HA.out.1.row.rd.take k (by omega)) (fun h => by cases h) (by have := HLn.out.1; simp only [List.length_nil]; omega) rfl rfl rfl rfl ?_; intro A4 n4 c4 w4 hG; have H4 := Lib.hid hG; clear hG; have hb4 : Below wA.heap.size wA w4 := H4.out.below.mono (by rw [HX.out.2.2.2.2]; exact Nat.le_refl _); have hT4 := HA.out.1.below hb4; obtain ⟨q0, q1, q2⟩ := hT4.cells; have HT4 := Lib.hid (And.intro hT4 hb4); clear hT4 hb4)
      | (refine wp_appE Try.eR (.tmp 31) (.tmp 38) (X + 1) (.slice A4 n4 c4) _ H4.out.own (by have := HT4.out.2.size; have := HX.out.2.2.2.2; omega) A3 n3 k3 (R.l.drop (k + 1)) (HA.out.2.2.2.1.below HT4.out.2) HA.out.2.2.2.2 (by have := HLn.out; rw [List.length_append, List.length_nil]; omega) rfl rfl rfl rfl ?_; intro A5 n5 c5 w5 hG; have H5 := Lib.hid hG; clear hG; have hb5 : Below wA.heap.size wA w5 := HT4.out.2.trans (H5.out.below.mono (by rw [HX.out.2.2.2.2]; exact Nat.le_refl _)); have hT5 := HA.out.1.below hb5; obtain ⟨q0, q1, q2⟩ := hT5.cells; have f0 := hT5.blk.frozen 0; have HT5 := Lib.hid (And.intro hT5 hb5); clear hT5 hb5; have g2 := (HA.out.2.1.below HT5.out.2).cell 2; simp only [List.getElem?_toArray, List.getElem?_cons_succ, List.getElem?_cons_zero] at g2))
    obtain ⟨wE, hwE⟩ : ∃ wE, w5.setCell ⟨r, 0, none⟩ (.slice A5 n5 c5) = wE := ⟨_, rfl⟩
    have hTE : Turn [r] w5 wE := by rw [← hwE]; exact (Turn.refl _ _).setCell (.inl (by simp)) _
    have bE : Blk wE r 30 #[.slice A5 n5 c5, .int .i64 R.next, .slice A2 m2 c2] := by
      rw [← hwE]
      have := HT5.out.1.blk.set_ 0 (.slice A5 n5 c5)
      simpa using this
    obtain ⟨l', hl'⟩ : ∃ l', R.l.eraseP (fun x => decide (x.h = hh ∧ x.c = conn)) = l' := ⟨_, rfl⟩
    have hown : OwnE Try.eR w5 (X + 1) (.slice A5 n5 c5) l' := by rw [← hl', HX.out.2.2.1]; have := H5.out.own; rwa [List.nil_append] at this
    have hrX : r < X := by rw [← HX.out.2.2.2.1]; exact H.out.1.blk.lt
    have hlen' : l'.length ≤ 1000 := by
      rw [← hl']
      exact Nat.le_trans List.length_eraseP_le H.out.1.s1
    have hRE : RAt wE B r A5 n5 c5 A2 m2 c2 ⟨l', R.next, R.who⟩ := ⟨bE, (hown.turn hTE (fun g hg hm => by have := (hown.lt hg).1; simp at hm; omega)).mono (by have := H.out.1.lr; omega), HT5.out.1.who.turn hTE (fun g hg hm => by simp at hm; subst hm; exact HT5.out.1.who.ne HT5.out.1.blk (by decide) hg), H.out.1.lr, hlen', H.out.1.s2⟩
    have hbw : Below w.heap.size w w5 := HA.out.2.2.1.trans (HT5.out.2.mono HA.out.2.2.1.size)
    have hTw : Turn S w wE := (Turn.of_below S hbw).trans hTE (fun x hx => .inl (by simp at hx; subst hx; rw [H.out.2.1]; unfold rblocks; simp))
    have hin : InOr S (rblocks A5 n5 c5 A2 m2 c2 r) w.heap.size := fun y hy => by
      rw [H.out.2.1]
      unfold rblocks at hy ⊢
      rcases List.mem_cons.1 hy with e | e
      · left; rw [e]; simp
      · rcases List.mem_append.1 e with e | e
        · right; have := (hown.lt (g := y) (by simpa using e)).1; have := HX.out.2.2.2.1; omega
        · left; simp at e; simp [e]
    have hRb : Rb wE B r (rblocks A5 n5 c5 A2 m2 c2 r) ⟨l', R.next, R.who⟩ := ⟨A5, n5, c5, A2, m2, c2, hRE, rfl⟩
    have g2 := (HA.out.2.1.below HT5.out.2).turn hTE (by simp; omega) |>.cell 2
    simp only [List.getElem?_toArray, List.getElem?_cons_succ, List.getElem?_cons_zero] at g2
    have HE := Lib.hid (And.intro hRb (And.intro hTw (And.intro hin (And.intro hl' hwE))))
    rw [hwE]
    clear hwE hTE bE hown hRE hbw hTw hin hRb q0 q1 q2 f0 hl' hs1 hs2
    have hh := rhas_any B r _ _ conn x.s wE HE.out.1
    obtain ⟨b, hb⟩ : ∃ b, rhas l' conn x.s = b := ⟨_, rfl⟩
    rw [show rhas (RP.mk l' R.next R.who).l conn x.s = b from hb] at hh
    have HB := Lib.hid hb
    clear hb
    refine hh.mono ?_
    rintro e w6 ⟨rfl, rfl⟩
    clear hh
    cases b with
    | true =>
      go_wp2_with fail
      go_ret
      have hr : R.closeW conn hh = (0, ⟨l', R.next, R.who⟩) := by unfold RP.closeW; rw [HX.out.2.1]; simp only; rw [HE.out.2.2.2.1, if_pos HB.out]
      rw [hr]
      exact ⟨rfl, _, HE.out.1, HE.out.2.1, HE.out.2.2.1⟩
    | false =>
      go_wp2_with fail
      refine (rout_any B r _ _ conn x.s wE HE.out.1).mono ?_
      rintro e w7 ⟨rfl, hd⟩
      have HD := Lib.hid hd
      clear hd
      go_wp2_with fail
      go_ret
      have hr : R.closeW conn hh = (0, RP.out ⟨l', R.next, R.who⟩ conn x.s) := by unfold RP.closeW; rw [HX.out.2.1]; simp only; rw [HE.out.2.2.2.1, if_neg (by rw [HB.out]; simp)]
      rw [hr]
      exact ⟨rfl, rchain HE.out.2.2.1 HE.out.2.1 HD.out⟩
def RP.stateW (R : RP) (conn hh : Int) : Int := match R.l.find? (fun x => decide (x.h = hh ∧ x.c = conn)) with | none => -1 | some x => stW (ruser R.who conn x.s) x.rw
set_option maxHeartbeats 2000000 in
theorem rstate_any (B r : Nat) (S : List Nat) (R : RP) (conn hh : Int) (w : World) (h : Rb w B r S R) :
    Calls Try.prog 38 #[.pointer (some ⟨r, 0, none⟩), .int .i64 conn, .int .i64 hh] w fun e w' => e = .returned (.int .i64 (R.stateW conn hh)) ∧ Below w.heap.size w w' := by
  have h0 := h
  have hf := rfind_any B r S R conn hh w h
  obtain ⟨A, m, c, A2, m2, c2, hR, hS⟩ := h
  obtain ⟨q0, q1, q2⟩ := hR.cells
  have hm : m ≤ 1000 := by rw [hR.row.len]; exact hR.s1
  have H := Lib.hid (And.intro hR (And.intro hS (And.intro h0 hf)))
  clear hR hS h0 hf
  go_enter Try.func38, Try.ntmps38
  go_wp2_with fail
  refine H.out.2.2.2.mono ?_
  rintro e w1 ⟨⟨v, rfl, hv⟩, rfl⟩
  rcases hv with ⟨rfl, hn⟩ | ⟨k, x, rfl, hx, hs, he⟩
  · have HN := Lib.hid hn
    clear hn
    go_wp2_with fail
    go_ret
    exact ⟨by unfold RP.stateW; rw [HN.out]; rfl, Below.refl _ _⟩
  · have hkm : k < m := by rw [H.out.1.row.len]; exact (List.getElem?_eq_some_iff.1 hx).1
    obtain ⟨g, off, hAe, c0, c1, c2', c3⟩ := rsess_at H.out.1.row.rd hx
    subst hAe
    have hk0 : ¬ ((k : Int) < 0) := by omega
    have hk0d : decide ((k : Int) < 0) = false := decide_eq_false hk0
    have hkm' : (k : Int) < (m : Int) := by omega
    obtain ⟨b, hb⟩ : ∃ b, x.rw = b := ⟨_, rfl⟩
    rw [hb] at c3
    obtain ⟨X, hX⟩ : ∃ X, w.heap.size = X := ⟨_, rfl⟩
    obtain ⟨wA, hwA⟩ : ∃ wA, w.alloc (.cells #[.int .i64 x.h, .int .i64 x.c, .int .i64 x.s, .bool b] 61) = wA := ⟨_, rfl⟩
    have bA : Blk wA X 61 #[.int .i64 x.h, .int .i64 x.c, .int .i64 x.s, .bool b] := by rw [← hwA, ← hX]; exact Blk.new _ _ _
    have hbA : Below w.heap.size w wA := by rw [← hwA]; exact (Below.refl _ _).alloc (Nat.le_refl _) _
    have g2 := bA.cell 2
    have g3 := bA.cell 3
    simp only [List.getElem?_toArray, List.getElem?_cons_succ, List.getElem?_cons_zero] at g2 g3
    have hu := ruser_any B r S R conn x.s wA (H.out.2.2.1.below hbA)
    obtain ⟨u, hu'⟩ : ∃ u, ruser R.who conn x.s = u := ⟨_, rfl⟩
    rw [hu'] at hu
    have hst : R.stateW conn hh = stW u b := by unfold RP.stateW; rw [hs]; simp only; rw [hu', hb]
    have HU := Lib.hid (And.intro hu (And.intro hst hbA))
    clear hu hu' hst hbA bA hx hs he hb
    go_wp2_with fail
    try rw [hwA]
    refine HU.out.1.mono ?_
    rintro e w2 ⟨rfl, rfl⟩
    by_cases h0 : u = 0
    · subst h0
      go_wp2_with fail
      go_ret
      exact ⟨by rw [HU.out.2.1]; rfl, HU.out.2.2⟩
    have d0 : decide (u = 0) = false := decide_eq_false h0
    by_cases h1 : u = 1
    · subst h1
      cases b <;>
      · go_wp2_with fail
        go_ret
        exact ⟨by rw [HU.out.2.1]; rfl, HU.out.2.2⟩
    have d1 : decide (u = 1) = false := decide_eq_false h1
    cases b <;>
    · go_wp2_with fail
      go_ret
      exact ⟨by rw [HU.out.2.1]; simp [stW, *], HU.out.2.2⟩
end Go.Proofs.Ytnpncbpbeikcaaa
