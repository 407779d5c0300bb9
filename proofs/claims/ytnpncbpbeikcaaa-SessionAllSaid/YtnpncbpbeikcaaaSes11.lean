/-
  Operations that come in; the law SessionApart, plainly and walked.
-/
import Derived.Test.YtnpncbpbeikcaaaSes10
import Derived.Test.YtnpncbpbeikcaaaOpenE
namespace Go.Proofs.Ytnpncbpbeikcaaa
open Go.RowKit Go.Maps Go.ChangeShapes Go.WideShapes Go.ChangeAt Go.Deep

/-- An operation. -/
structure OpP where
  kind : Int
  conn : Int
  slot : Int
  h : Int
  user : Int
  rw : Bool
def OpP.wf (x : OpP) : Prop := wf64 x.kind ∧ wf64 x.conn ∧ wf64 x.slot ∧ wf64 x.h ∧ wf64 x.user
def Try.eO : ETy OpP where
  t := 32
  ts := 22
  sz := 6
  bytes := 48
  z := .agg #[.int .i64 0, .int .i64 0, .int .i64 0, .int .i64 0, .int .i64 0, .bool false]
  cells := fun x => [.int .i64 x.kind, .int .i64 x.conn, .int .i64 x.slot, .int .i64 x.h, .int .i64 x.user, .bool x.rw]
  len := fun _ => rfl
  one := fun x u hu => by simp at hu; rcases hu with rfl | rfl | rfl | rfl | rfl | rfl <;> rfl
  pos := by decide
  zsz := rfl
  small := by decide
  und := Try.underlying22
  info := by kernel_rfl
section
variable {H : Type} {enc : TypeId × Value → H}
theorem op_trod {W : World} {n : Nat} {cs : List Value} {y : DataW H × List MemPlace} (h : DataW.trod enc Try.prog W 0 (fun _ => true) true n 32 cs = some y) : ∃ x : OpP, cs = Try.eO.cells x ∧ x.wf := by
  obtain ⟨xs, n', _, hx', hlen, hxl, hfl⟩ := DataW.trod_struct Try.underlying32 h
  have hC : Try.prog.cellsOf 32 = 6 := by kernel_rfl
  have c1 : Try.prog.cellsOf 3 = 1 := by kernel_rfl
  have c2 : Try.prog.cellsOf 4 = 1 := by kernel_rfl
  match cs, hlen.trans hC with
  | [v0, v1, v2, v3, v4, v5], _ =>
    have hz : ∀ j, j < 6 → ∃ y, xs[j]? = some y := fun j hj => ⟨_, List.getElem?_eq_getElem (by rw [hxl]; exact hj)⟩
    obtain ⟨y0, hy0⟩ := hz 0 (by omega)
    have f0 : DataW.trod enc Try.prog W 0 (fun _ => true) true n' 3 (([v0, v1, v2, v3, v4, v5].drop 0).take (Try.prog.cellsOf 3)) = some y0 := (hfl 0 _ rfl).trans hy0
    rw [c1] at f0
    obtain ⟨a0, e0, _, w0⟩ := DataW.trod_int Try.underlying3 f0
    obtain ⟨y1, hy1⟩ := hz 1 (by omega)
    have f1 : DataW.trod enc Try.prog W 0 (fun _ => true) true n' 3 (([v0, v1, v2, v3, v4, v5].drop 1).take (Try.prog.cellsOf 3)) = some y1 := (hfl 1 _ rfl).trans hy1
    rw [c1] at f1
    obtain ⟨a1, e1, _, w1⟩ := DataW.trod_int Try.underlying3 f1
    obtain ⟨y2, hy2⟩ := hz 2 (by omega)
    have f2 : DataW.trod enc Try.prog W 0 (fun _ => true) true n' 3 (([v0, v1, v2, v3, v4, v5].drop 2).take (Try.prog.cellsOf 3)) = some y2 := (hfl 2 _ rfl).trans hy2
    rw [c1] at f2
    obtain ⟨a2, e2, _, w2⟩ := DataW.trod_int Try.underlying3 f2
    obtain ⟨y3, hy3⟩ := hz 3 (by omega)
    have f3 : DataW.trod enc Try.prog W 0 (fun _ => true) true n' 3 (([v0, v1, v2, v3, v4, v5].drop 3).take (Try.prog.cellsOf 3)) = some y3 := (hfl 3 _ rfl).trans hy3
    rw [c1] at f3
    obtain ⟨a3, e3, _, w3⟩ := DataW.trod_int Try.underlying3 f3
    obtain ⟨y4, hy4⟩ := hz 4 (by omega)
    have f4 : DataW.trod enc Try.prog W 0 (fun _ => true) true n' 3 (([v0, v1, v2, v3, v4, v5].drop 4).take (Try.prog.cellsOf 3)) = some y4 := (hfl 4 _ rfl).trans hy4
    rw [c1] at f4
    obtain ⟨a4, e4, _, w4⟩ := DataW.trod_int Try.underlying3 f4
    obtain ⟨y5, hy5⟩ := hz 5 (by omega)
    have f5 : DataW.trod enc Try.prog W 0 (fun _ => true) true n' 4 (([v0, v1, v2, v3, v4, v5].drop 5).take (Try.prog.cellsOf 4)) = some y5 := (hfl 5 _ rfl).trans hy5
    rw [c2] at f5
    obtain ⟨b, e5, _⟩ := DataW.trod_bool Try.underlying4 f5
    simp at e0 e1 e2 e3 e4 e5
    subst e0 e1 e2 e3 e4 e5
    exact ⟨⟨a0, a1, a2, a3, a4, b⟩, rfl, w0, w1, w2, w3, w4⟩
theorem open_ops22 {W : World} {base : Nat} {v : Value} {d : DataW H} {p : List MemPlace} (hval : Value.okWide Try.prog W .any base 22 v) (h : DataW.Trod enc Try.prog W 0 (fun _ => true) true 22 v d p) :
    ∃ A m c l, v = .slice A m c ∧ m ≤ maxLen ∧ RdC Try.eO W A m l ∧ ∀ x ∈ l, x.wf := by
  obtain ⟨A, m, c, l, h1, h2, _, h3⟩ := open_sliceE Try.eO OpP.wf (by kernel_rfl) (fun n cs y h => op_trod h) (fun x => ⟨_, rfl, .i64, x.kind, .inl rfl⟩) hval h
  exact ⟨A, m, c, l, h1, h2, h3⟩
end
theorem op_at {W : World} {A : Option Addr} {m : Nat} {l : List OpP} (h : RdC Try.eO W A m l) {j : Nat} {x : OpP} (hj : l[j]? = some x) :
    ∃ g off, A = some ⟨g, off, none⟩ ∧ g < W.heap.size ∧ W.cell? ⟨g, off + j * 6, none⟩ = some (.int .i64 x.kind) ∧ W.cell? ⟨g, off + j * 6 + 1, none⟩ = some (.int .i64 x.conn) ∧ W.cell? ⟨g, off + j * 6 + 2, none⟩ = some (.int .i64 x.slot) ∧ W.cell? ⟨g, off + j * 6 + 3, none⟩ = some (.int .i64 x.h) ∧ W.cell? ⟨g, off + j * 6 + 4, none⟩ = some (.int .i64 x.user) ∧ W.cell? ⟨g, off + j * 6 + 5, none⟩ = some (.bool x.rw) := by
  obtain ⟨g, off, hA, hg, hc⟩ := h.at_ hj
  have c0 := hc 0 (by decide)
  have c1 := hc 1 (by decide)
  have c2 := hc 2 (by decide)
  have c3 := hc 3 (by decide)
  have c4 := hc 4 (by decide)
  have c5 := hc 5 (by decide)
  rw [← Nat.add_assoc] at c1 c2 c3 c4 c5
  exact ⟨g, off, hA, hg, c0, c1, c2, c3, c4, c5⟩
/-- What stays while others work: 77's one session is the first, and its user is logged in. -/
structure Apart (T : PT) (k : Nat) : Prop where
  l : ∃ rest, T.l = ⟨1, 77, 1, true⟩ :: rest ∧ ∀ x ∈ rest, x.h ≠ 1
  who : T.who 77 1 = some 1
  last : 1 ≤ T.last ∧ T.last ≤ k + 1
  n : T.n ≤ k + 1
theorem Apart.state {T : PT} {k : Nat} (h : Apart T k) : T.stateW 77 1 = 3 := by
  obtain ⟨rest, hl, hr⟩ := h.l
  unfold PT.stateW PT.seek
  rw [hl, List.find?_cons_of_pos (by simp)]
  simp only
  unfold PT.user
  rw [h.who]
  rfl
theorem Apart.other {T : PT} {k : Nat} (h : Apart T k) (conn : Int) (hc : conn ≠ 77) : T.stateW conn 1 = -1 := by
  obtain ⟨rest, hl, hr⟩ := h.l
  unfold PT.stateW PT.seek
  rw [hl, List.find?_cons_of_neg (by simp; exact fun e => hc e.symm), List.find?_eq_none.2 (fun x hx => by simp; intro e; exact absurd e (hr x hx))]
theorem Apart.more {T : PT} {k : Nat} (h : Apart T k) : Apart T (k + 1) := ⟨h.l, h.who, ⟨h.last.1, by have := h.last.2; omega⟩, by have := h.n; omega⟩
theorem Apart.closed {T : PT} {k : Nat} (h : Apart T k) (q : PS → Bool) (hq : q ⟨1, 77, 1, true⟩ = false) : Apart (T.closed q) (k + 1) := by
  obtain ⟨rest, hl, hr⟩ := h.l
  unfold PT.closed
  refine ⟨⟨rest.filter (fun x => !q x), by show T.l.filter _ = _; rw [hl, List.filter_cons_of_pos (by simp [hq])], fun x hx => hr x (List.mem_filter.1 hx).1⟩, ?_, ⟨h.last.1, by have := h.last.2; simp only; omega⟩, by have := h.n; simp only; omega⟩
  show (if _ then T.who 77 1 else none) = _
  rw [hl, List.filter_cons_of_pos (by simp [hq]), if_pos (by simp)]
  exact h.who
theorem Apart.opened {T : PT} {k : Nat} (h : Apart T k) (conn slot : Int) (rw_ : Bool) : Apart (T.openW conn slot rw_).2.2 (k + 1) := by
  unfold PT.openW
  split
  · exact h.more
  · split
    · exact h.more
    · split
      · exact h.more
      · obtain ⟨rest, hl, hr⟩ := h.l
        have hlast := h.last
        refine ⟨⟨rest ++ [⟨T.last + 1, conn, slot, rw_⟩], by show T.l ++ _ = _; rw [hl]; rfl, fun x hx => ?_⟩, h.who, ⟨by show 1 ≤ T.last + 1; omega, by show T.last + 1 ≤ _; omega⟩, by have := h.n; show T.n ≤ _; omega⟩
        rcases List.mem_append.1 hx with e | e
        · exact hr x e
        · simp at e; subst e; show T.last + 1 ≠ 1; omega
theorem Apart.closeW {T : PT} {k : Nat} (h : Apart T k) (conn hh : Int) (hc : conn ≠ 77) : Apart (T.closeW conn hh).2 (k + 1) := by
  unfold PT.closeW
  cases hs : T.seek conn hh with
  | none => exact h.more
  | some x =>
    refine h.closed _ (decide_eq_false (fun e => ?_))
    have h1 := List.find?_some hs
    have h2 := List.mem_of_find?_eq_some hs
    simp at h1
    obtain ⟨rest, hl, hr⟩ := h.l
    rw [hl] at h2
    rcases List.mem_cons.1 h2 with e2 | e2
    · rw [e2] at h1; exact hc h1.2.symm
    · exact hr x e2 (h1.1.trans e.symm)
theorem Apart.loginW {T : PT} {k : Nat} (h : Apart T k) (conn slot user : Int) (hc : conn ≠ 77) : Apart (T.loginW conn slot user) (k + 1) := by
  unfold PT.loginW
  split
  · exact ⟨h.l, by show (if _ then _ else T.who 77 1) = _; rw [if_neg (fun e => hc e.1.symm)]; exact h.who, ⟨h.last.1, by have := h.last.2; simp only; omega⟩, by have := h.n; simp only; omega⟩
  · exact h.more
theorem Apart.logoutW {T : PT} {k : Nat} (h : Apart T k) (conn slot : Int) (hc : conn ≠ 77) : Apart (T.logoutW conn slot).2 (k + 1) := by
  unfold PT.logoutW
  split
  · exact h.more
  · exact ⟨h.l, by show (if _ then _ else T.who 77 1) = _; rw [if_neg (fun e => hc e.1.symm)]; exact h.who, ⟨h.last.1, by have := h.last.2; simp only; omega⟩, by have := h.n; simp only; omega⟩
end Go.Proofs.Ytnpncbpbeikcaaa
