/-
  A call that came in by value: its numbers, bytes and attributes.
-/
import Derived.Test.YtmanpfenmamflaaRpc5
import Derived.Test.YtmanpfenmamflaaOpenP
import Derived.Deep.Slices
import Derived.Lib.SmallJoins
namespace Go.Proofs.Ytmanpfenmamflaa
open Go.RowKit Go.ChangeShapes Go.WideShapes Go.ChangeAt Go.Deep Go.Joins
section
variable {H : Type} {enc : TypeId × Value → H}
theorem take_one {l : List Value} {j : Nat} {v : Value} (h : (l.drop j).take 1 = [v]) : l[j]? = some v := by
  have := congrArg (fun z => z[0]?) h
  simpa [List.getElem?_take, List.getElem?_drop] using this
theorem take_some {l : List Value} {j : Nat} (h : j < l.length) : ∃ v, (l.drop j).take 1 = [v] ∧ l[j]? = some v := by
  refine ⟨l[j], ?_, List.getElem?_eq_getElem h⟩
  rw [List.drop_eq_getElem_cons h]
  rfl
theorem addr_of_cell {W : World} {a : Addr} {v : Value} (h : W.cell? a = some v) (hv : ∃ k n, v = .int k n ∨ ∃ b, v = .bool b) : a.spot = none ∧ a.block < W.heap.size := by
  obtain ⟨ab, ao, sp⟩ := a
  unfold World.cell? at h
  simp only at h
  split at h
  · rename_i cs t fr hh
    refine ⟨?_, (Array.getElem?_eq_some_iff.1 hh).1⟩
    cases sp with
    | none => rfl
    | some s => simp at h
  · cases h
theorem rdE_trod {W : World} {n : Nat} {v : Value} {y : DataW H × List MemPlace} (h : DataW.trod enc Try.prog W 0 (fun _ => true) true n 22 [v] = some y) : ∃ A m c l, v = .slice A m c ∧ RdE W A m c l := by
  rcases open_ints Try.underlying22 Try.underlying5 (show Try.prog.cellsOf 5 = 1 by kernel_rfl) h with ⟨hcs, hx⟩ | ⟨a, len', cap', zs, hcs, _, hl, hm, hz, hx, hcell, hwz⟩
  · simp at hcs
    exact ⟨_, _, _, [], hcs, .inl (Rd.nil W)⟩
  · simp at hcs
    refine ⟨_, _, _, (zs.take len').map fun n => UInt8.ofNat n.toNat, hcs, ?_⟩
    simp only [if_true] at hz
    rcases Nat.eq_zero_or_pos cap' with h0 | h0
    · exact .inr ⟨by omega, h0, by rw [show len' = 0 by omega]; rfl⟩
    · have hc0 := hcell 0 (by omega)
      obtain ⟨hsp, hlt⟩ := addr_of_cell hc0 ⟨_, _, .inl rfl⟩
      obtain ⟨ab, ao, sp⟩ := a
      have hlt' : ab < W.heap.size := by
        have : (Addr.add ⟨ab, ao, sp⟩ 0).block = ab := by unfold Addr.add; split <;> rfl
        rwa [this] at hlt
      have hsp' : sp = none := by
        rw [show Addr.add ⟨ab, ao, sp⟩ 0 = ⟨ab, ao, sp⟩ from rfl] at hsp
        exact hsp
      subst hsp'
      refine .inl ⟨by simp; omega, hl, hm, .inr ⟨ab, ao, rfl, hlt', fun k x hk => ?_⟩⟩
      have hk' : k < len' := by
        have := (List.getElem?_eq_some_iff.1 hk).1
        simp at this; omega
      have hc := hcell k (by omega)
      rw [Addr.add_lit] at hc
      rw [hc]
      have e : zs[k]? = some (zs.getD k 0) := by simp [List.getD, List.getElem?_eq_getElem (show k < zs.length by omega)]
      rw [List.getElem?_map, List.getElem?_take, if_pos hk', e] at hk
      simp only [Option.map_some, Option.some.injEq] at hk
      have hw := hwz (zs.getD k 0) (List.mem_of_getElem? e)
      have hr : 0 ≤ zs.getD k 0 ∧ zs.getD k 0 ≤ 255 := by
        simpa [Lit.wf, IntKind.min, IntKind.max, IntKind.bits, IntKind.signed] using hw
      subst hk
      unfold B
      rw [UInt8.toNat_ofNat']
      congr 2
      omega
theorem rdL_trod {W : World} {n : Nat} {v : Value} {y : DataW H × List MemPlace} (h : DataW.trod enc Try.prog W 0 (fun _ => true) true n 22 [v] = some y) : ∃ A m c l, v = .slice A m c ∧ RdB W W.heap.size A m c l := by
  obtain ⟨A, m, c, l, e, hr⟩ := rdE_trod h
  rcases hr with hr | hr
  · exact ⟨A, m, c, l, e, RdB.ofRd hr⟩
  · exact ⟨A, m, c, l, e, .inr hr⟩
theorem ats_trod {W : World} {n : Nat} {v : Value} {y : DataW H × List MemPlace} (h : DataW.trod enc Try.prog W 0 (fun _ => true) true n 25 [v] = some y) : ∃ (s : Sl) (l : List (Int × List UInt8)), v = .slice s.A s.m s.c ∧ AtsAt W W.heap.size s.A s.m l ∧ s.m ≤ maxLen := by
  rcases open_slice Try.underlying25 h with ⟨hcs, hx⟩ | ⟨a, len, cap, m, n', D, Pl, hcs, _, hl, hm, hmm, hx, hr⟩
  · simp at hcs
    exact ⟨⟨none, 0, 0⟩, [], hcs, ⟨rfl, .inl rfl⟩, Nat.zero_le _⟩
  · simp at hcs
    simp only [if_true] at hmm
    have hC : Try.prog.cellsOf 50 = 2 := by kernel_rfl
    have c1 : Try.prog.cellsOf 3 = 1 := by kernel_rfl
    have c2 : Try.prog.cellsOf 22 = 1 := by kernel_rfl
    have key0 : ∀ i, i < len → ∃ (t : Int) (Aj : Option Addr) (mj cj : Nat) (x : List UInt8), W.cell? ((a.add (i * 2)).add 0) = some (.int .i64 t) ∧ W.cell? ((a.add (i * 2)).add 1) = some (.slice Aj mj cj) ∧ RdB W W.heap.size Aj mj cj x := by
      intro i hi
      obtain ⟨cs', hcell, htr⟩ := hr i (by omega)
      rw [hC] at hcell
      obtain ⟨xs, n', _, hx', hlen, hxl, hfl⟩ := DataW.trod_struct Try.underlying50 htr
      obtain ⟨_, hcl, hat⟩ := World.cells?_some hcell
      rw [hC] at hlen
      have hz : ∀ j, j < 2 → ∃ y, xs[j]? = some y := fun j hj => ⟨_, List.getElem?_eq_getElem (by rw [hxl]; exact hj)⟩
      obtain ⟨y0, hy0⟩ := hz 0 (by omega)
      obtain ⟨y1, hy1⟩ := hz 1 (by omega)
      have f0 : DataW.trod enc Try.prog W 0 (fun _ => true) true n' 3 ((cs'.drop 0).take (Try.prog.cellsOf 3)) = some y0 := (hfl 0 _ rfl).trans hy0
      have f1 : DataW.trod enc Try.prog W 0 (fun _ => true) true n' 22 ((cs'.drop 1).take (Try.prog.cellsOf 22)) = some y1 := (hfl 1 _ rfl).trans hy1
      rw [c1] at f0
      rw [c2] at f1
      obtain ⟨t, e0, _, _⟩ := DataW.trod_int Try.underlying3 f0
      obtain ⟨v1, e1, g1⟩ := take_some (l := cs') (j := 1) (by omega)
      rw [e1] at f1
      obtain ⟨Aj, mj, cj, x, rfl, hx⟩ := rdL_trod f1
      exact ⟨t, Aj, mj, cj, x, (hat 0 (by omega)).trans (take_one e0), (hat 1 (by omega)).trans g1, hx⟩
    refine ⟨⟨some a, len, cap⟩, ?_⟩
    rcases Nat.eq_zero_or_pos len with h0 | h0
    · subst h0
      exact ⟨[], hcs, ⟨rfl, .inl rfl⟩, Nat.zero_le _⟩
    · obtain ⟨t0, _, _, _, _, k0, _⟩ := key0 0 h0
      have hsp0 := addr_of_cell k0 ⟨_, _, .inl rfl⟩
      have ha0 : (a.add (0 * 2)).add 0 = a := by rw [Nat.zero_mul]; rfl
      rw [ha0] at hsp0
      obtain ⟨ab, ao, sp⟩ := a
      obtain ⟨hsp, hlt⟩ := hsp0
      simp only at hsp hlt
      subst hsp
      have key : ∀ i, i < len → ∃ e : Int × List UInt8, W.cell? ⟨ab, ao + i * 2, none⟩ = some (.int .i64 e.1) ∧ ∃ Aj mj cj, W.cell? ⟨ab, ao + i * 2 + 1, none⟩ = some (.slice Aj mj cj) ∧ RdB W W.heap.size Aj mj cj e.2 := by
        intro i hi
        obtain ⟨t, Aj, mj, cj, x, g0, g1, g2⟩ := key0 i hi
        have hadd : ∀ j, (((⟨ab, ao, none⟩ : Addr).add (i * 2)).add j) = ⟨ab, ao + i * 2 + j, none⟩ := fun j => by rw [Addr.add_lit, Addr.add_mid]
        rw [hadd] at g0 g1
        exact ⟨(t, x), g0, Aj, mj, cj, g1, g2⟩
      refine ⟨(List.range len).attach.map fun i => Classical.choose (key i.1 (List.mem_range.1 i.2)), hcs, ⟨by simp, .inr ⟨ab, ao, rfl, hlt, hlt, fun j t x hj => ?_⟩⟩, show len ≤ maxLen by omega⟩
      rw [List.getElem?_map] at hj
      cases hq : (List.range len).attach[j]? with
      | none => rw [hq] at hj; cases hj
      | some q =>
        rw [hq] at hj
        simp only [Option.map_some, Option.some.injEq] at hj
        have hqj : q.1 = j := by
          obtain ⟨hl2, hq2⟩ := List.getElem?_eq_some_iff.1 hq
          rw [← hq2]; simp
        have := Classical.choose_spec (key q.1 (List.mem_range.1 q.2))
        rw [hj, hqj] at this
        exact this
theorem call_trod {W : World} {n : Nat} {l : List Value} {y : DataW H × List MemPlace} (hf : DataW.trod enc Try.prog W 0 (fun _ => true) true n 27 l = some y) :
    ∃ c p d e t u, l = (callC c p d e t u).toList ∧ CallIs W W.heap.size c p d e t u := by
  have hC : Try.prog.cellsOf 27 = 11 := by kernel_rfl
  have hM : Try.prog.cellsOf 24 = 2 := by kernel_rfl
  have c1 : Try.prog.cellsOf 3 = 1 := by kernel_rfl
  have c2 : Try.prog.cellsOf 22 = 1 := by kernel_rfl
  have c3 : Try.prog.cellsOf 25 = 1 := by kernel_rfl
  obtain ⟨xs, n', _, hx', hlen, hxl, hfl⟩ := DataW.trod_struct Try.underlying27 hf
  have hsz := hlen.trans hC
  match l, hsz with
  | [v0, v1, v2, v3, v4, v5, v6, v7, v8, v9, v10], _ =>
    have hz : ∀ j, j < 10 → ∃ y, xs[j]? = some y := fun j hj => ⟨_, List.getElem?_eq_getElem (by rw [hxl]; exact hj)⟩
    obtain ⟨y0, hy0⟩ := hz 0 (by omega)
    have f0 : DataW.trod enc Try.prog W 0 (fun _ => true) true n' 3 (([v0, v1, v2, v3, v4, v5, v6, v7, v8, v9, v10].drop 0).take (Try.prog.cellsOf 3)) = some y0 := (hfl 0 _ rfl).trans hy0
    rw [c1] at f0
    obtain ⟨y1, hy1⟩ := hz 1 (by omega)
    have f1 : DataW.trod enc Try.prog W 0 (fun _ => true) true n' 3 (([v0, v1, v2, v3, v4, v5, v6, v7, v8, v9, v10].drop 1).take (Try.prog.cellsOf 3)) = some y1 := (hfl 1 _ rfl).trans hy1
    rw [c1] at f1
    obtain ⟨y2, hy2⟩ := hz 2 (by omega)
    have f2 : DataW.trod enc Try.prog W 0 (fun _ => true) true n' 3 (([v0, v1, v2, v3, v4, v5, v6, v7, v8, v9, v10].drop 2).take (Try.prog.cellsOf 3)) = some y2 := (hfl 2 _ rfl).trans hy2
    rw [c1] at f2
    obtain ⟨y3, hy3⟩ := hz 3 (by omega)
    have f3 : DataW.trod enc Try.prog W 0 (fun _ => true) true n' 3 (([v0, v1, v2, v3, v4, v5, v6, v7, v8, v9, v10].drop 3).take (Try.prog.cellsOf 3)) = some y3 := (hfl 3 _ rfl).trans hy3
    rw [c1] at f3
    obtain ⟨y4, hy4⟩ := hz 4 (by omega)
    have f4 : DataW.trod enc Try.prog W 0 (fun _ => true) true n' 3 (([v0, v1, v2, v3, v4, v5, v6, v7, v8, v9, v10].drop 4).take (Try.prog.cellsOf 3)) = some y4 := (hfl 4 _ rfl).trans hy4
    rw [c1] at f4
    obtain ⟨y5, hy5⟩ := hz 5 (by omega)
    have f5 : DataW.trod enc Try.prog W 0 (fun _ => true) true n' 24 (([v0, v1, v2, v3, v4, v5, v6, v7, v8, v9, v10].drop 5).take (Try.prog.cellsOf 24)) = some y5 := (hfl 5 _ rfl).trans hy5
    rw [hM] at f5
    obtain ⟨y6, hy6⟩ := hz 6 (by omega)
    have f6 : DataW.trod enc Try.prog W 0 (fun _ => true) true n' 22 (([v0, v1, v2, v3, v4, v5, v6, v7, v8, v9, v10].drop 7).take (Try.prog.cellsOf 22)) = some y6 := (hfl 6 _ rfl).trans hy6
    rw [c2] at f6
    obtain ⟨y7, hy7⟩ := hz 7 (by omega)
    have f7 : DataW.trod enc Try.prog W 0 (fun _ => true) true n' 22 (([v0, v1, v2, v3, v4, v5, v6, v7, v8, v9, v10].drop 8).take (Try.prog.cellsOf 22)) = some y7 := (hfl 7 _ rfl).trans hy7
    rw [c2] at f7
    obtain ⟨y8, hy8⟩ := hz 8 (by omega)
    have f8 : DataW.trod enc Try.prog W 0 (fun _ => true) true n' 25 (([v0, v1, v2, v3, v4, v5, v6, v7, v8, v9, v10].drop 9).take (Try.prog.cellsOf 25)) = some y8 := (hfl 8 _ rfl).trans hy8
    rw [c3] at f8
    obtain ⟨y9, hy9⟩ := hz 9 (by omega)
    have f9 : DataW.trod enc Try.prog W 0 (fun _ => true) true n' 25 (([v0, v1, v2, v3, v4, v5, v6, v7, v8, v9, v10].drop 10).take (Try.prog.cellsOf 25)) = some y9 := (hfl 9 _ rfl).trans hy9
    rw [c3] at f9
    obtain ⟨n0, e0, _, _⟩ := DataW.trod_int Try.underlying3 f0
    obtain ⟨n1, e1, _, _⟩ := DataW.trod_int Try.underlying3 f1
    obtain ⟨n2, e2, _, _⟩ := DataW.trod_int Try.underlying3 f2
    obtain ⟨n3, e3, _, _⟩ := DataW.trod_int Try.underlying3 f3
    obtain ⟨n4, e4, _, _⟩ := DataW.trod_int Try.underlying3 f4
    simp at e0 e1 e2 e3 e4
    subst e0 e1 e2 e3 e4
    obtain ⟨ms, m', _, _, hml, hmx, hmf⟩ := DataW.trod_struct Try.underlying24 f5
    have hmz : ∀ j, j < 2 → ∃ y, ms[j]? = some y := fun j hj => ⟨_, List.getElem?_eq_getElem (by rw [hmx]; exact hj)⟩
    obtain ⟨z0, hz0⟩ := hmz 0 (by omega)
    obtain ⟨z1, hz1⟩ := hmz 1 (by omega)
    have g0 : DataW.trod enc Try.prog W 0 (fun _ => true) true m' 3 (([v5, v6].drop 0).take (Try.prog.cellsOf 3)) = some z0 := (hmf 0 _ rfl).trans hz0
    have g1 : DataW.trod enc Try.prog W 0 (fun _ => true) true m' 22 (([v5, v6].drop 1).take (Try.prog.cellsOf 22)) = some z1 := (hmf 1 _ rfl).trans hz1
    rw [c1] at g0
    rw [c2] at g1
    obtain ⟨n5, e5, _, _⟩ := DataW.trod_int Try.underlying3 g0
    simp at e5
    subst e5
    obtain ⟨pA, pm, pc, pl, rfl, hp⟩ := rdL_trod g1
    obtain ⟨dA, dm, dc, dl, rfl, hd⟩ := rdL_trod f6
    obtain ⟨eA, em, ec, el, rfl, he⟩ := rdL_trod f7
    obtain ⟨t, tl, rfl, ht, htm⟩ := ats_trod f8
    obtain ⟨u, ul, rfl, hu, hum⟩ := ats_trod f9
    exact ⟨⟨n0, n1, n2, n3, n4, n5, pl, dl, el, tl, ul⟩, ⟨pA, pm, pc⟩, ⟨dA, dm, dc⟩, ⟨eA, em, ec⟩, t, u, rfl, ⟨hp, hd, he, ht, hu, htm, hum⟩⟩
theorem open_call {W : World} {base : Nat} {v : Value} {d : DataW H} {p : List MemPlace} (hval : Value.okWide Try.prog W .any base 27 v) (h : DataW.Trod enc Try.prog W 0 (fun _ => true) true 27 v d p) :
    ∃ c p d e t u, v = callV c p d e t u ∧ CallIs W W.heap.size c p d e t u := by
  obtain ⟨cs, rfl, hsz⟩ := okWide_struct Try.underlying27 hval
  obtain ⟨fuel, hf⟩ := h
  obtain ⟨c, p, d, e, t, u, hl, hI⟩ := call_trod hf
  obtain ⟨l⟩ := cs
  have hl : l = _ := hl
  subst hl
  exact ⟨c, p, d, e, t, u, rfl, hI⟩
end
end Go.Proofs.Ytmanpfenmamflaa
