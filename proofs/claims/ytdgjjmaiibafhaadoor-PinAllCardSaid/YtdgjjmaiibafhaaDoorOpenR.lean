/-
  Slices that came in, read one by one; a row of no room may lie anywhere.
-/
import Derived.Test.YtdgjjmaiibafhaaDoorOpenP
import Derived.Test.YtdgjjmaiibafhaaDoorOpenE
import Derived.Deep.Slices
import Derived.Lib.SmallJoins
namespace Go.Proofs.YtdgjjmaiibafhaaDoor
set_option maxRecDepth 100000
open Go.RowKit Go.ChangeShapes Go.WideShapes Go.ChangeAt Go.Deep Go.Joins
section
variable {H : Type} {enc : TypeId × Value → H}
theorem take_oneN {l : List Value} {j : Nat} {v : Value} (h : (l.drop j).take 1 = [v]) : l[j]? = some v := by
  have := congrArg (fun z => z[0]?) h
  simpa [List.getElem?_take, List.getElem?_drop] using this
theorem take_someN {l : List Value} {j : Nat} (h : j < l.length) : ∃ v, (l.drop j).take 1 = [v] ∧ l[j]? = some v := by
  refine ⟨l[j], ?_, List.getElem?_eq_getElem h⟩
  rw [List.drop_eq_getElem_cons h]
  rfl
theorem addr_of_cellN {W : World} {a : Addr} {v : Value} (h : W.cell? a = some v) (hv : ∃ k n, v = .int k n ∨ ∃ b, v = .bool b) : a.spot = none ∧ a.block < W.heap.size := by
  obtain ⟨ab, ao, sp⟩ := a
  unfold World.cell? at h
  simp only at h
  split at h
  · rename_i cs t fr hh
    refine ⟨?_, (Array.getElem?_eq_some_iff.1 hh).1⟩
    cases sp with
    | none => rfl
    | some s => simp at h
  · cases h
theorem rdE_trodN {W : World} {n : Nat} {v : Value} {y : DataW H × List MemPlace} (h : DataW.trod enc Tryd.prog W 0 (fun _ => true) true n 22 [v] = some y) : ∃ A m c l, v = .slice A m c ∧ RdE W A m c l := by
  rcases open_ints Tryd.underlying22 Tryd.underlying5 (show Tryd.prog.cellsOf 5 = 1 by kernel_rfl) h with ⟨hcs, hx⟩ | ⟨a, len', cap', zs, hcs, _, hl, hm, hz, hx, hcell, hwz⟩
  · simp at hcs
    exact ⟨_, _, _, [], hcs, .inl (Rd.nil W)⟩
  · simp at hcs
    refine ⟨_, _, _, (zs.take len').map fun n => UInt8.ofNat n.toNat, hcs, ?_⟩
    simp only [if_true] at hz
    rcases Nat.eq_zero_or_pos cap' with h0 | h0
    · exact .inr ⟨by omega, h0, by rw [show len' = 0 by omega]; rfl⟩
    · have hc0 := hcell 0 (by omega)
      obtain ⟨hsp, hlt⟩ := addr_of_cellN hc0 ⟨_, _, .inl rfl⟩
      obtain ⟨ab, ao, sp⟩ := a
      have hlt' : ab < W.heap.size := by
        have : (Addr.add ⟨ab, ao, sp⟩ 0).block = ab := by unfold Addr.add; split <;> rfl
        rwa [this] at hlt
      have hsp' : sp = none := by
        rw [show Addr.add ⟨ab, ao, sp⟩ 0 = ⟨ab, ao, sp⟩ from rfl] at hsp
        exact hsp
      subst hsp'
      refine .inl ⟨by simp; omega, hl, hm, .inr ⟨ab, ao, rfl, hlt', fun k x hk => ?_⟩⟩
      have hk' : k < len' := by
        have := (List.getElem?_eq_some_iff.1 hk).1
        simp at this; omega
      have hc := hcell k (by omega)
      rw [Addr.add_lit] at hc
      rw [hc]
      have e : zs[k]? = some (zs.getD k 0) := by simp [List.getD, List.getElem?_eq_getElem (show k < zs.length by omega)]
      rw [List.getElem?_map, List.getElem?_take, if_pos hk', e] at hk
      simp only [Option.map_some, Option.some.injEq] at hk
      have hw := hwz (zs.getD k 0) (List.mem_of_getElem? e)
      have hr : 0 ≤ zs.getD k 0 ∧ zs.getD k 0 ≤ 255 := by
        simpa [Lit.wf, IntKind.min, IntKind.max, IntKind.bits, IntKind.signed] using hw
      subst hk
      unfold B
      rw [UInt8.toNat_ofNat']
      congr 2
      omega
/-- Elements that are read one by one make a row. -/
theorem rows_of_key {α : Type} (E : ETy α) (Good : α → Prop) {W : World} {a : Addr} {len : Nat}
    (key0 : ∀ i, i < len → ∃ x, Good x ∧ ∀ (j : Nat) (u : Value), (E.cells x)[j]? = some u → W.cell? ((a.add (i * E.sz)).add j) = some u)
    (hfirst : ∀ x, ∃ v, (E.cells x)[0]? = some v ∧ ∃ k n, v = .int k n ∨ ∃ b, v = .bool b) : ∃ l, RdC E W (some a) len l ∧ (0 < len → a.block < W.heap.size) ∧ ∀ x ∈ l, Good x := by
  have hpos := E.pos
  rcases Nat.eq_zero_or_pos len with h0 | h0
  · subst h0
    exact ⟨[], ⟨rfl, .inl rfl⟩, fun h => absurd h (by omega), by simp⟩
  · obtain ⟨x0, _, k0⟩ := key0 0 h0
    obtain ⟨v0, hv0, hf0⟩ := hfirst x0
    have hsp0 := addr_of_cellN (k0 0 _ hv0) hf0
    have ha0 : (a.add (0 * E.sz)).add 0 = a := by rw [Nat.zero_mul]; rfl
    rw [ha0] at hsp0
    obtain ⟨ab, ao, sp⟩ := a
    obtain ⟨hsp, hlt⟩ := hsp0
    simp only at hsp hlt
    subst hsp
    have key : ∀ i, i < len → ∃ x, Good x ∧ ∀ (j : Nat) (u : Value), (E.cells x)[j]? = some u → W.cell? ⟨ab, ao + (i * E.sz + j), none⟩ = some u := by
      intro i hi
      obtain ⟨x, hg, g1⟩ := key0 i hi
      refine ⟨x, hg, fun j u hu => ?_⟩
      have := g1 j u hu
      rwa [Addr.add_lit, Addr.add_mid, Nat.add_assoc] at this
    let L := (List.range len).attach.map fun i => Classical.choose (key i.1 (List.mem_range.1 i.2))
    have hL : ∀ (j : Nat) (x : α), L[j]? = some x → Good x ∧ ∀ (i : Nat) (u : Value), (E.cells x)[i]? = some u → W.cell? ⟨ab, ao + (j * E.sz + i), none⟩ = some u := by
      intro j x hj
      simp only [L] at hj
      rw [List.getElem?_map] at hj
      cases hq : (List.range len).attach[j]? with
      | none => rw [hq] at hj; cases hj
      | some q =>
        rw [hq] at hj
        simp only [Option.map_some, Option.some.injEq] at hj
        have hqj : q.1 = j := by
          obtain ⟨hl2, hq2⟩ := List.getElem?_eq_some_iff.1 hq
          rw [← hq2]; simp
        have := Classical.choose_spec (key q.1 (List.mem_range.1 q.2))
        rw [hj, hqj] at this
        exact this
    have hLl : L.length = len := by simp [L]
    clear_value L
    refine ⟨L, ⟨hLl, .inr ⟨ab, ao, rfl, hlt, fun j u hu => ?_⟩⟩, fun _ => hlt, fun x hx => ?_⟩
    · have hjl : j < L.length * E.sz := by
        rw [← E.all_len]
        exact (List.getElem?_eq_some_iff.1 hu).1
      have hq : j / E.sz < L.length := Nat.div_lt_of_lt_mul (by rw [Nat.mul_comm]; exact hjl)
      obtain ⟨x, hx⟩ : ∃ x, L[j / E.sz]? = some x := ⟨_, List.getElem?_eq_getElem hq⟩
      have hr' : j % E.sz < E.sz := Nat.mod_lt _ hpos
      have hj : j = j / E.sz * E.sz + j % E.sz := by rw [Nat.mul_comm]; exact (Nat.div_add_mod j E.sz).symm
      have h1 := E.all_get L _ x hx _ hr'
      rw [← hj, hu] at h1
      have := (hL _ x hx).2 _ u h1.symm
      rwa [← hj] at this
    · obtain ⟨j, hj⟩ := List.getElem?_of_mem hx
      exact (hL j x hj).1
theorem pick_all {α β : Type} {R : α → β → Prop} : ∀ (l : List α), (∀ x ∈ l, ∃ y, R x y) → ∃ m : List β, l.length = m.length ∧ ∀ (j : Nat) x y, l[j]? = some x → m[j]? = some y → R x y
  | [], _ => ⟨[], rfl, by simp⟩
  | x :: l, h => by
    obtain ⟨y, hy⟩ := h x (by simp)
    obtain ⟨m, hl, hm⟩ := pick_all l (fun z hz => h z (by simp [hz]))
    refine ⟨y :: m, by simp [hl], fun j a b ha hb => ?_⟩
    cases j with
    | zero => simp at ha hb; subst ha; subst hb; exact hy
    | succ j => simp at ha hb; exact hm j a b ha hb
end
end Go.Proofs.YtdgjjmaiibafhaaDoor
