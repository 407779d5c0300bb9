/-
  A slice of entries that came in: their numbers.
-/
import Derived.Test.YtpccmcpeijmekaaDoorLift
import Derived.Deep.Slices
namespace Go.Proofs.YtpccmcpeijmekaaDoor
open Go.RowKit Go.ChangeShapes Go.WideShapes Go.ChangeAt Go.Deep

/-- The numbers of an entry. -/
structure RawE where
  s : Int
  t : Int
  f : Int
  r : Int
  l : Int
  wf : t ≤ 9223372036854775807
/-- An entry lies at place off of block b. -/
def RawAt (W : World) (b off : Nat) (e : RawE) : Prop :=
  W.cell? ⟨b, off, none⟩ = some (.int .i64 e.s) ∧ W.cell? ⟨b, off + 1, none⟩ = some (.int .i64 e.t) ∧ W.cell? ⟨b, off + 2, none⟩ = some (.int .i64 e.f) ∧ W.cell? ⟨b, off + 3, none⟩ = some (.int .i64 e.r) ∧ W.cell? ⟨b, off + 4, none⟩ = some (.int .i64 e.l)
def EntsAt (W : World) (A : Option Addr) (m : Nat) (es : List RawE) : Prop :=
  es.length = m ∧ (m = 0 ∨ ∃ b off, A = some ⟨b, off, none⟩ ∧ b < W.heap.size ∧ ∀ (j : Nat) (e : RawE), es[j]? = some e → RawAt W b (off + j * 5) e)
theorem RawAt.old {W W' : World} {b off : Nat} {e : RawE} (h : RawAt W b off e) (hb : b < W.heap.size) (ho : Below W.heap.size W W') : RawAt W' b off e := by
  have k : ∀ o, W'.cell? ⟨b, o, none⟩ = W.cell? ⟨b, o, none⟩ := fun o => ho.cell (p := ⟨b, o, none⟩) hb
  exact ⟨(k _).trans h.1, (k _).trans h.2.1, (k _).trans h.2.2.1, (k _).trans h.2.2.2.1, (k _).trans h.2.2.2.2⟩
theorem EntsAt.old {W W' : World} {A : Option Addr} {m : Nat} {es : List RawE} (h : EntsAt W A m es) (ho : Below W.heap.size W W') : EntsAt W' A m es := by
  obtain ⟨h1, h2 | ⟨b, off, h2, h3, h4⟩⟩ := h
  · exact ⟨h1, .inl h2⟩
  · exact ⟨h1, .inr ⟨b, off, h2, Nat.lt_of_lt_of_le h3 ho.size, fun j e he => (h4 j e he).old h3 ho⟩⟩
section
variable {H : Type} {enc : TypeId × Value → H}
theorem take_one {l : List Value} {j : Nat} {v : Value} (h : (l.drop j).take 1 = [v]) : l[j]? = some v := by
  have := congrArg (fun z => z[0]?) h
  simpa [List.getElem?_take, List.getElem?_drop] using this
theorem open_ents {W : World} {base : Nat} {v : Value} {d : DataW H} {p : List MemPlace} (hval : Value.okWide Tryd.prog W .any base 22 v) (h : DataW.Trod enc Tryd.prog W 0 (fun _ => true) true 22 v d p) :
    ∃ A m c es, v = .slice A m c ∧ m ≤ maxLen ∧ EntsAt W A m es := by
  have hval' := hval
  obtain ⟨a1, len, cap, rfl⟩ := okWide_slice Tryd.underlying22 hval
  obtain ⟨fuel, hf⟩ := h
  rcases open_slice Tryd.underlying22 hf with ⟨hcs, hx⟩ | ⟨a, len', cap', m, n, D, Pl, hcs, _, hl, hm, hmm, hx, hr⟩
  · simp [Value.cells] at hcs
    obtain ⟨rfl, rfl, rfl⟩ := hcs
    exact ⟨_, _, _, [], rfl, Nat.zero_le _, rfl, .inl rfl⟩
  · simp [Value.cells] at hcs
    obtain ⟨rfl, rfl, rfl⟩ := hcs
    unfold Value.okWide Cell.okWide Cell.ok at hval'
    rw [Tryd.underlying22] at hval'
    obtain ⟨_, _, _, hspot, row, cells, hsh, _⟩ := hval'
    have hlt : a.block < W.heap.size := by
      unfold World.shape? at hsh
      rcases Nat.lt_or_ge a.block W.heap.size with h | h
      · exact h
      · rw [Array.getElem?_eq_none h] at hsh; cases hsh
    obtain ⟨ab, ao, spot⟩ := a
    simp only at hspot hlt
    subst hspot
    have hC : Tryd.prog.cellsOf 29 = 5 := by kernel_rfl
    have c1 : Tryd.prog.cellsOf 3 = 1 := by kernel_rfl
    have c2 : Tryd.prog.cellsOf 2 = 1 := by kernel_rfl
    have c3 : Tryd.prog.cellsOf 27 = 1 := by kernel_rfl
    simp only [if_true] at hmm
    have key : ∀ i, i < len → ∃ e : RawE, RawAt W ab (ao + i * 5) e := by
      intro i hi
      obtain ⟨cs', hcell, htr⟩ := hr i (by omega)
      rw [hC] at hcell
      obtain ⟨xs, n', _, hx', hlen, hxl, hfl⟩ := DataW.trod_struct Tryd.underlying29 htr
      obtain ⟨_, hcl, hat⟩ := World.cells?_some hcell
      rw [hC] at hlen
      have hz : ∀ j, j < 5 → ∃ y, xs[j]? = some y := fun j hj => ⟨_, List.getElem?_eq_getElem (by rw [hxl]; exact hj)⟩
      obtain ⟨y0, hy0⟩ := hz 0 (by omega)
      obtain ⟨y1, hy1⟩ := hz 1 (by omega)
      obtain ⟨y2, hy2⟩ := hz 2 (by omega)
      obtain ⟨y3, hy3⟩ := hz 3 (by omega)
      obtain ⟨y4, hy4⟩ := hz 4 (by omega)
      have f0 : DataW.trod enc Tryd.prog W 0 (fun _ => true) true n' 3 ((cs'.drop 0).take (Tryd.prog.cellsOf 3)) = some y0 := (hfl 0 _ rfl).trans hy0
      rw [c1] at f0
      have f1 : DataW.trod enc Tryd.prog W 0 (fun _ => true) true n' 2 ((cs'.drop 1).take (Tryd.prog.cellsOf 2)) = some y1 := (hfl 1 _ rfl).trans hy1
      rw [c2] at f1
      have f2 : DataW.trod enc Tryd.prog W 0 (fun _ => true) true n' 3 ((cs'.drop 2).take (Tryd.prog.cellsOf 3)) = some y2 := (hfl 2 _ rfl).trans hy2
      rw [c1] at f2
      have f3 : DataW.trod enc Tryd.prog W 0 (fun _ => true) true n' 27 ((cs'.drop 3).take (Tryd.prog.cellsOf 27)) = some y3 := (hfl 3 _ rfl).trans hy3
      rw [c3] at f3
      have f4 : DataW.trod enc Tryd.prog W 0 (fun _ => true) true n' 3 ((cs'.drop 4).take (Tryd.prog.cellsOf 3)) = some y4 := (hfl 4 _ rfl).trans hy4
      rw [c1] at f4
      obtain ⟨n0, e0, _, _⟩ := DataW.trod_int Tryd.underlying3 f0
      obtain ⟨n1, e1, _, w1⟩ := DataW.trod_int Tryd.underlying2 f1
      obtain ⟨n2, e2, _, _⟩ := DataW.trod_int Tryd.underlying3 f2
      obtain ⟨n3, e3, _, _⟩ := DataW.trod_int Tryd.underlying27 f3
      obtain ⟨n4, e4, _, _⟩ := DataW.trod_int Tryd.underlying3 f4
      have hadd : ∀ j, (((⟨ab, ao, none⟩ : Addr).add (i * 5)).add j) = ⟨ab, ao + i * 5 + j, none⟩ := fun j => by rw [Addr.add_lit, Addr.add_mid]
      have hc : ∀ j u, j < 5 → cs'[j]? = some u → W.cell? ⟨ab, ao + i * 5 + j, none⟩ = some u := fun j u hj hu => by
        have := hat j hj
        rw [hadd] at this
        rw [this]; exact hu
      exact ⟨⟨n0, n1, n2, n3, n4, (i64_wf w1).2⟩, hc 0 _ (by omega) (take_one e0), hc 1 _ (by omega) (take_one e1), hc 2 _ (by omega) (take_one e2), hc 3 _ (by omega) (take_one e3), hc 4 _ (by omega) (take_one e4)⟩
    refine ⟨_, len, cap, (List.range len).attach.map fun i => Classical.choose (key i.1 (List.mem_range.1 i.2)), rfl, by omega, by simp, .inr ⟨ab, ao, rfl, hlt, fun j e hj => ?_⟩⟩
    rw [List.getElem?_map] at hj
    cases hq : (List.range len).attach[j]? with
    | none => rw [hq] at hj; cases hj
    | some q =>
      rw [hq] at hj
      simp only [Option.map_some, Option.some.injEq] at hj
      have hqj : q.1 = j := by
        have := List.getElem?_eq_some_iff.1 hq
        obtain ⟨hl2, hq2⟩ := this
        rw [← hq2]; simp
      have := Classical.choose_spec (key q.1 (List.mem_range.1 q.2))
      rw [hj, hqj] at this
      exact this
end
end Go.Proofs.YtpccmcpeijmekaaDoor
