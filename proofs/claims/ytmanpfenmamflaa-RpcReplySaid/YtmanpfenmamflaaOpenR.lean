/-
  A reply that came in by value: its numbers, bytes, list and attributes.
-/
import Derived.Test.YtmanpfenmamflaaOpenC
import Derived.Test.YtmanpfenmamflaaRpc6
namespace Go.Proofs.Ytmanpfenmamflaa
open Go.RowKit Go.ChangeShapes Go.WideShapes Go.ChangeAt Go.Deep Go.Joins
section
variable {H : Type} {enc : TypeId × Value → H}
theorem ints_trod {W : World} {n : Nat} {v : Value} {y : DataW H × List MemPlace} (h : DataW.trod enc Try.prog W 0 (fun _ => true) true n 45 [v] = some y) : ∃ (s : Sl) (l : List Int), v = .slice s.A s.m s.c ∧ IntsAt W W.heap.size s l := by
  rcases open_slice Try.underlying45 h with ⟨hcs, hx⟩ | ⟨a, len, cap, m, n', D, Pl, hcs, _, hl, hm, hmm, hx, hr⟩
  · simp at hcs
    exact ⟨⟨none, 0, 0⟩, [], hcs, rfl, Nat.le_refl _, Nat.zero_le _, .inl rfl⟩
  · simp at hcs
    simp only [if_true] at hmm
    have c1 : Try.prog.cellsOf 3 = 1 := by kernel_rfl
    have key0 : ∀ i, i < len → ∃ t : Int, W.cell? ((a.add i).add 0) = some (.int .i64 t) := by
      intro i hi
      obtain ⟨cs', hcell, htr⟩ := hr i (by omega)
      rw [c1, Nat.mul_one] at hcell
      obtain ⟨t, e0, _, _⟩ := DataW.trod_int Try.underlying3 htr
      obtain ⟨_, hcl, hat⟩ := World.cells?_some hcell
      refine ⟨t, ?_⟩
      rw [hat 0 (by omega), e0]; rfl
    refine ⟨⟨some a, len, cap⟩, ?_⟩
    rcases Nat.eq_zero_or_pos len with h0 | h0
    · subst h0
      exact ⟨[], hcs, rfl, (show 0 ≤ cap by omega), (show cap ≤ maxLen from hm), .inl rfl⟩
    · obtain ⟨t0, k0⟩ := key0 0 h0
      have hsp0 := addr_of_cell k0 ⟨_, _, .inl rfl⟩
      have ha0 : (a.add 0).add 0 = a := rfl
      rw [ha0] at hsp0
      obtain ⟨ab, ao, sp⟩ := a
      obtain ⟨hsp, hlt⟩ := hsp0
      simp only at hsp hlt
      subst hsp
      have key : ∀ i, i < len → ∃ e : Int, W.cell? ⟨ab, ao + i, none⟩ = some (.int .i64 e) := by
        intro i hi
        obtain ⟨t, g0⟩ := key0 i hi
        rw [show ((⟨ab, ao, none⟩ : Addr).add i).add 0 = ⟨ab, ao + i, none⟩ by rw [Addr.add_lit, Addr.add_mid, Nat.add_zero]] at g0
        exact ⟨t, g0⟩
      refine ⟨(List.range len).attach.map fun i => Classical.choose (key i.1 (List.mem_range.1 i.2)), hcs, by simp, hl, hm, .inr ⟨ab, ao, rfl, hlt, hlt, fun j x hj => ?_⟩⟩
      rw [List.getElem?_map] at hj
      cases hq : (List.range len).attach[j]? with
      | none => rw [hq] at hj; cases hj
      | some q =>
        rw [hq] at hj
        simp only [Option.map_some, Option.some.injEq] at hj
        have hqj : q.1 = j := by
          obtain ⟨hl2, hq2⟩ := List.getElem?_eq_some_iff.1 hq
          rw [← hq2]; simp
        have := Classical.choose_spec (key q.1 (List.mem_range.1 q.2))
        rw [hj, hqj] at this
        exact this
theorem open_reply {W : World} {base : Nat} {v : Value} {d : DataW H} {p : List MemPlace} (hval : Value.okWide Try.prog W .any base 48 v) (h : DataW.Trod enc Try.prog W 0 (fun _ => true) true 48 v d p) :
    ∃ c d e t, v = repV c d e t ∧ RepIs W W.heap.size c d e t := by
  obtain ⟨cs, rfl, hsz⟩ := okWide_struct Try.underlying48 hval
  obtain ⟨fuel, hf⟩ := h
  obtain ⟨l⟩ := cs
  have hC : Try.prog.cellsOf 48 = 6 := by kernel_rfl
  have c0 : Try.prog.cellsOf 46 = 1 := by kernel_rfl
  have c1 : Try.prog.cellsOf 3 = 1 := by kernel_rfl
  have c2 : Try.prog.cellsOf 22 = 1 := by kernel_rfl
  have c4 : Try.prog.cellsOf 45 = 1 := by kernel_rfl
  have c3 : Try.prog.cellsOf 25 = 1 := by kernel_rfl
  match l, hsz.trans hC with
  | [v0, v1, v2, v3, v4, v5], _ =>
    obtain ⟨xs, n', _, hx', hlen, hxl, hfl⟩ := DataW.trod_struct Try.underlying48 hf
    have hz : ∀ j, j < 6 → ∃ y, xs[j]? = some y := fun j hj => ⟨_, List.getElem?_eq_getElem (by rw [hxl]; exact hj)⟩
    obtain ⟨y0, hy0⟩ := hz 0 (by omega)
    have f0 : DataW.trod enc Try.prog W 0 (fun _ => true) true n' 46 (([v0, v1, v2, v3, v4, v5].drop 0).take (Try.prog.cellsOf 46)) = some y0 := (hfl 0 _ rfl).trans hy0
    rw [c0] at f0
    obtain ⟨y1, hy1⟩ := hz 1 (by omega)
    have f1 : DataW.trod enc Try.prog W 0 (fun _ => true) true n' 3 (([v0, v1, v2, v3, v4, v5].drop 1).take (Try.prog.cellsOf 3)) = some y1 := (hfl 1 _ rfl).trans hy1
    rw [c1] at f1
    obtain ⟨y2, hy2⟩ := hz 2 (by omega)
    have f2 : DataW.trod enc Try.prog W 0 (fun _ => true) true n' 3 (([v0, v1, v2, v3, v4, v5].drop 2).take (Try.prog.cellsOf 3)) = some y2 := (hfl 2 _ rfl).trans hy2
    rw [c1] at f2
    obtain ⟨y3, hy3⟩ := hz 3 (by omega)
    have f3 : DataW.trod enc Try.prog W 0 (fun _ => true) true n' 22 (([v0, v1, v2, v3, v4, v5].drop 3).take (Try.prog.cellsOf 22)) = some y3 := (hfl 3 _ rfl).trans hy3
    rw [c2] at f3
    obtain ⟨y4, hy4⟩ := hz 4 (by omega)
    have f4 : DataW.trod enc Try.prog W 0 (fun _ => true) true n' 45 (([v0, v1, v2, v3, v4, v5].drop 4).take (Try.prog.cellsOf 45)) = some y4 := (hfl 4 _ rfl).trans hy4
    rw [c4] at f4
    obtain ⟨y5, hy5⟩ := hz 5 (by omega)
    have f5 : DataW.trod enc Try.prog W 0 (fun _ => true) true n' 25 (([v0, v1, v2, v3, v4, v5].drop 5).take (Try.prog.cellsOf 25)) = some y5 := (hfl 5 _ rfl).trans hy5
    rw [c3] at f5
    obtain ⟨n0, e0, _, _⟩ := DataW.trod_int Try.underlying46 f0
    obtain ⟨n1, e1, _, _⟩ := DataW.trod_int Try.underlying3 f1
    obtain ⟨n2, e2, _, _⟩ := DataW.trod_int Try.underlying3 f2
    simp at e0 e1 e2
    subst e0 e1 e2
    obtain ⟨dA, dm, dc, dl, rfl, hd⟩ := rdL_trod f3
    obtain ⟨e, el, rfl, he⟩ := ints_trod f4
    obtain ⟨t, tl, rfl, ht, htm⟩ := ats_trod f5
    exact ⟨⟨n0, n1, n2, dl, el, tl⟩, ⟨dA, dm, dc⟩, e, t, rfl, ⟨hd, he, ht, htm⟩⟩
end
end Go.Proofs.Ytmanpfenmamflaa
