/-
  An entry that came in by value: its numbers.
-/
import Derived.Test.YtpccmcpeijmekaaDoorOpenEnt
import Derived.Lib.SmallJoins
namespace Go.Proofs.YtpccmcpeijmekaaDoor
open Go.RowKit Go.ChangeShapes Go.WideShapes Go.ChangeAt Go.Deep Go.Joins
section
variable {H : Type} {enc : TypeId × Value → H}
theorem open_ent {W : World} {base : Nat} {v : Value} {d : DataW H} {p : List MemPlace} (hval : Value.okWide Tryd.prog W .any base 29 v) (h : DataW.Trod enc Tryd.prog W 0 (fun _ => true) true 29 v d p) :
    ∃ e : RawE, v = .agg #[.int .i64 e.s, .int .i64 e.t, .int .i64 e.f, .int .i64 e.r, .int .i64 e.l] := by
  obtain ⟨cs, rfl, hsz⟩ := okWide_struct Tryd.underlying29 hval
  obtain ⟨l⟩ := cs
  have hC : Tryd.prog.cellsOf 29 = 5 := by kernel_rfl
  have c1 : Tryd.prog.cellsOf 3 = 1 := by kernel_rfl
  have c2 : Tryd.prog.cellsOf 2 = 1 := by kernel_rfl
  have c3 : Tryd.prog.cellsOf 27 = 1 := by kernel_rfl
  match l, hsz.trans hC with
  | [v0, v1, v2, v3, v4], _ =>
    obtain ⟨fuel, hf⟩ := h
    obtain ⟨xs, n', _, hx', hlen, hxl, hfl⟩ := DataW.trod_struct Tryd.underlying29 hf
    have hz : ∀ j, j < 5 → ∃ y, xs[j]? = some y := fun j hj => ⟨_, List.getElem?_eq_getElem (by rw [hxl]; exact hj)⟩
    obtain ⟨y0, hy0⟩ := hz 0 (by omega)
    obtain ⟨y1, hy1⟩ := hz 1 (by omega)
    obtain ⟨y2, hy2⟩ := hz 2 (by omega)
    obtain ⟨y3, hy3⟩ := hz 3 (by omega)
    obtain ⟨y4, hy4⟩ := hz 4 (by omega)
    have f0 : DataW.trod enc Tryd.prog W 0 (fun _ => true) true n' 3 (([v0, v1, v2, v3, v4].drop 0).take (Tryd.prog.cellsOf 3)) = some y0 := (hfl 0 _ rfl).trans hy0
    have f1 : DataW.trod enc Tryd.prog W 0 (fun _ => true) true n' 2 (([v0, v1, v2, v3, v4].drop 1).take (Tryd.prog.cellsOf 2)) = some y1 := (hfl 1 _ rfl).trans hy1
    have f2 : DataW.trod enc Tryd.prog W 0 (fun _ => true) true n' 3 (([v0, v1, v2, v3, v4].drop 2).take (Tryd.prog.cellsOf 3)) = some y2 := (hfl 2 _ rfl).trans hy2
    have f3 : DataW.trod enc Tryd.prog W 0 (fun _ => true) true n' 27 (([v0, v1, v2, v3, v4].drop 3).take (Tryd.prog.cellsOf 27)) = some y3 := (hfl 3 _ rfl).trans hy3
    have f4 : DataW.trod enc Tryd.prog W 0 (fun _ => true) true n' 3 (([v0, v1, v2, v3, v4].drop 4).take (Tryd.prog.cellsOf 3)) = some y4 := (hfl 4 _ rfl).trans hy4
    rw [c1] at f0 f2 f4
    rw [c2] at f1
    rw [c3] at f3
    obtain ⟨n0, e0, _, _⟩ := DataW.trod_int Tryd.underlying3 f0
    obtain ⟨n1, e1, _, w1⟩ := DataW.trod_int Tryd.underlying2 f1
    obtain ⟨n2, e2, _, _⟩ := DataW.trod_int Tryd.underlying3 f2
    obtain ⟨n3, e3, _, _⟩ := DataW.trod_int Tryd.underlying27 f3
    obtain ⟨n4, e4, _, _⟩ := DataW.trod_int Tryd.underlying3 f4
    simp at e0 e1 e2 e3 e4
    subst e0 e1 e2 e3 e4
    exact ⟨⟨n0, n1, n2, n3, n4, (i64_wf w1).2⟩, rfl⟩
end
end Go.Proofs.YtpccmcpeijmekaaDoor
