/-
  A slice that came in, whatever its elements.
-/
import Derived.Test.YtgjnmpjimhbfgaaGreatDoorZzRowK
import Derived.Test.YtgjnmpjimhbfgaaGreatDoorLift
import Derived.Deep.Slices
namespace Go.Proofs.YtgjnmpjimhbfgaaGreatDoor
set_option maxRecDepth 100000
open Go.RowKit Go.ChangeShapes Go.WideShapes Go.ChangeAt Go.Deep
section
variable {H : Type} {enc : TypeId × Value → H}
theorem addr_of_cellE {W : World} {a : Addr} {v : Value} (h : W.cell? a = some v) (_hv : ∃ k n, v = .int k n ∨ ∃ b, v = .bool b) : a.spot = none ∧ a.block < W.heap.size := by
 obtain ⟨ab, ao, sp⟩ := a
 unfold World.cell? at h
 simp only at h
 split at h
 ·rename_i cs t fr hh
  refine ⟨?_, (Array.getElem?_eq_some_iff.1 hh).1⟩
  cases sp with
  | none => rfl
  | some s => simp at h
 ·cases h
theorem open_sliceE {α : Type} (E : ETy α) (Good : α → Prop) {W : World} {base : Nat} {v : Value} {d : DataW H} {p : List MemPlace} (hC : Tryz.prog.cellsOf E.t = E.sz)
  (hinv : ∀ n cs y, DataW.trod enc Tryz.prog W 0 (fun _ => true) true n E.t cs = some y → ∃ x, cs = E.cells x ∧ Good x)
  (hfirst : ∀ x, ∃ v, (E.cells x)[0]? = some v ∧ ∃ k n, v = .int k n ∨ ∃ b, v = .bool b)
  (hval : Value.okWide Tryz.prog W .any base E.ts v) (h : DataW.Trod enc Tryz.prog W 0 (fun _ => true) true E.ts v d p) :
  ∃ A m c l, v = .slice A m c ∧ m ≤ maxLen ∧ (A = none → c = 0) ∧ RdC E W A m l ∧ ∀ x ∈ l, Good x := by
 obtain ⟨a1, len, cap, rfl⟩ := okWide_slice E.und hval
 obtain ⟨fuel, hf⟩ := h
 rcases open_slice E.und hf with ⟨hcs, hx⟩ | ⟨a, len', cap', m, n, D, Pl, hcs, _, hl, hm, hmm, hx, hr⟩
 ·simp [Value.cells] at hcs
  obtain ⟨rfl, rfl, rfl⟩ := hcs
  exact ⟨_, _, _, [], rfl, Nat.zero_le _, fun _ => rfl, ⟨rfl, .inl rfl⟩, by simp⟩
 ·simp [Value.cells] at hcs
  obtain ⟨rfl, rfl, rfl⟩ := hcs
  simp only [if_true] at hmm
  have hpos := E.pos
  have key0 : ∀ i, i < len → ∃ x, Good x ∧ ∀ (j : Nat) (u : Value), (E.cells x)[j]? = some u → W.cell? ((a.add (i * E.sz)).add j) = some u := by
   intro i hi
   obtain ⟨cs', hcell, htr⟩ := hr i (by omega)
   rw [hC] at hcell
   obtain ⟨x, hcs', hg⟩ := hinv _ _ _ htr
   obtain ⟨_, hcl, hat⟩ := World.cells?_some hcell
   refine ⟨x, hg, fun j u hu => ?_⟩
   have hj : j < E.sz := by
    rw [← E.len x]
    exact (List.getElem?_eq_some_iff.1 hu).1
   rw [hat j hj, hcs']
   exact hu
  rcases Nat.eq_zero_or_pos len with h0 | h0
  ·subst h0
   exact ⟨_, _, _, [], rfl, Nat.zero_le _, (fun h => nomatch h), ⟨rfl, .inl rfl⟩, by simp⟩
  ·obtain ⟨x0, _, k0⟩ := key0 0 h0
   obtain ⟨v0, hv0, hf0⟩ := hfirst x0
   have hsp0 := addr_of_cellE (k0 0 _ hv0) hf0
   have ha0 : (a.add (0 * E.sz)).add 0 = a := by rw [Nat.zero_mul]; rfl
   rw [ha0] at hsp0
   obtain ⟨ab, ao, sp⟩ := a
   obtain ⟨hsp, hlt⟩ := hsp0
   simp only at hsp hlt
   subst hsp
   have key : ∀ i, i < len → ∃ x, Good x ∧ ∀ (j : Nat) (u : Value), (E.cells x)[j]? = some u → W.cell? ⟨ab, ao + (i * E.sz + j), none⟩ = some u := by
    intro i hi
    obtain ⟨x, hg, g1⟩ := key0 i hi
    refine ⟨x, hg, fun j u hu => ?_⟩
    have := g1 j u hu
    rwa [Addr.add_lit, Addr.add_mid, Nat.add_assoc] at this
   let L := (List.range len).attach.map fun i => Classical.choose (key i.1 (List.mem_range.1 i.2))
   have hL : ∀ (j : Nat) (x : α), L[j]? = some x → Good x ∧ ∀ (i : Nat) (u : Value), (E.cells x)[i]? = some u → W.cell? ⟨ab, ao + (j * E.sz + i), none⟩ = some u := by
    intro j x hj
    simp only [L] at hj
    rw [List.getElem?_map] at hj
    cases hq : (List.range len).attach[j]? with
    | none => rw [hq] at hj; cases hj
    | some q =>
     rw [hq] at hj
     simp only [Option.map_some, Option.some.injEq] at hj
     have hqj : q.1 = j := by
      obtain ⟨hl2, hq2⟩ := List.getElem?_eq_some_iff.1 hq
      rw [← hq2]; simp
     have := Classical.choose_spec (key q.1 (List.mem_range.1 q.2))
     rw [hj, hqj] at this
     exact this
   have hLl : L.length = len := by simp [L]
   clear_value L
   refine ⟨_, len, cap, L, rfl, (show len ≤ maxLen by omega), (fun h => nomatch h), ⟨hLl, .inr ⟨ab, ao, rfl, hlt, fun j u hu => ?_⟩⟩, fun x hx => ?_⟩
   ·have hjl : j < L.length * E.sz := by
     rw [← E.all_len]
     exact (List.getElem?_eq_some_iff.1 hu).1
    have hq : j / E.sz < L.length := Nat.div_lt_of_lt_mul (by rw [Nat.mul_comm]; exact hjl)
    obtain ⟨x, hx⟩ : ∃ x, L[j / E.sz]? = some x := ⟨_, List.getElem?_eq_getElem hq⟩
    have hr' : j % E.sz < E.sz := Nat.mod_lt _ hpos
    have hj : j = j / E.sz * E.sz + j % E.sz := by rw [Nat.mul_comm]; exact (Nat.div_add_mod j E.sz).symm
    have h1 := E.all_get L _ x hx _ hr'
    rw [← hj, hu] at h1
    have := (hL _ x hx).2 _ u h1.symm
    rwa [← hj] at this
   ·obtain ⟨j, hj⟩ := List.getElem?_of_mem hx
    exact (hL j x hj).1
end
end Go.Proofs.YtgjnmpjimhbfgaaGreatDoor
