/-
  A node that came in.
  A slice of numbers that came in, with its bounds.
-/
import Derived.Test.YtgkhhinjdojbhaaDer26
import Derived.Deep.Slices
import Derived.Lib.SmallJoins
import Derived.Test.YtgkhhinjdojbhaaDer21
namespace Go.Proofs.Ytgkhhinjdojbhaa
open Go.RowKit Go.ChangeShapes Go.WideShapes Go.ChangeAt Go.Deep Go.Joins
section
variable {H : Type} {enc : TypeId × Value → H}
theorem take_oneN {l : List Value} {j : Nat} {v : Value} (h : (l.drop j).take 1 = [v]) : l[j]? = some v := by
  have := congrArg (fun z => z[0]?) h
  simpa [List.getElem?_take, List.getElem?_drop] using this
theorem take_someN {l : List Value} {j : Nat} (h : j < l.length) : ∃ v, (l.drop j).take 1 = [v] ∧ l[j]? = some v := by
  refine ⟨l[j], ?_, List.getElem?_eq_getElem h⟩
  rw [List.drop_eq_getElem_cons h]
  rfl
theorem addr_of_cellN {W : World} {a : Addr} {v : Value} (h : W.cell? a = some v) (hv : ∃ k n, v = .int k n ∨ ∃ b, v = .bool b) : a.spot = none ∧ a.block < W.heap.size := by
  obtain ⟨ab, ao, sp⟩ := a
  unfold World.cell? at h
  simp only at h
  split at h
  · rename_i cs t fr hh
    refine ⟨?_, (Array.getElem?_eq_some_iff.1 hh).1⟩
    cases sp with
    | none => rfl
    | some s => simp at h
  · cases h
theorem rdE_trodN {W : World} {n : Nat} {v : Value} {y : DataW H × List MemPlace} (h : DataW.trod enc Try.prog W 0 (fun _ => true) true n 22 [v] = some y) : ∃ A m c l, v = .slice A m c ∧ RdE W A m c l := by
  rcases open_ints Try.underlying22 Try.underlying5 (show Try.prog.cellsOf 5 = 1 by kernel_rfl) h with ⟨hcs, hx⟩ | ⟨a, len', cap', zs, hcs, _, hl, hm, hz, hx, hcell, hwz⟩
  · simp at hcs
    exact ⟨_, _, _, [], hcs, .inl (Rd.nil W)⟩
  · simp at hcs
    refine ⟨_, _, _, (zs.take len').map fun n => UInt8.ofNat n.toNat, hcs, ?_⟩
    simp only [if_true] at hz
    rcases Nat.eq_zero_or_pos cap' with h0 | h0
    · exact .inr ⟨by omega, h0, by rw [show len' = 0 by omega]; rfl⟩
    · have hc0 := hcell 0 (by omega)
      obtain ⟨hsp, hlt⟩ := addr_of_cellN hc0 ⟨_, _, .inl rfl⟩
      obtain ⟨ab, ao, sp⟩ := a
      have hlt' : ab < W.heap.size := by
        have : (Addr.add ⟨ab, ao, sp⟩ 0).block = ab := by unfold Addr.add; split <;> rfl
        rwa [this] at hlt
      have hsp' : sp = none := by
        rw [show Addr.add ⟨ab, ao, sp⟩ 0 = ⟨ab, ao, sp⟩ from rfl] at hsp
        exact hsp
      subst hsp'
      refine .inl ⟨by simp; omega, hl, hm, .inr ⟨ab, ao, rfl, hlt', fun k x hk => ?_⟩⟩
      have hk' : k < len' := by
        have := (List.getElem?_eq_some_iff.1 hk).1
        simp at this; omega
      have hc := hcell k (by omega)
      rw [Addr.add_lit] at hc
      rw [hc]
      have e : zs[k]? = some (zs.getD k 0) := by simp [List.getD, List.getElem?_eq_getElem (show k < zs.length by omega)]
      rw [List.getElem?_map, List.getElem?_take, if_pos hk', e] at hk
      simp only [Option.map_some, Option.some.injEq] at hk
      have hw := hwz (zs.getD k 0) (List.mem_of_getElem? e)
      have hr : 0 ≤ zs.getD k 0 ∧ zs.getD k 0 ≤ 255 := by
        simpa [Lit.wf, IntKind.min, IntKind.max, IntKind.bits, IntKind.signed] using hw
      subst hk
      unfold B
      rw [UInt8.toNat_ofNat']
      congr 2
      omega
/-- Elements that are read one by one make a row. -/
theorem rows_of_key {α : Type} (E : ETy α) (Good : α → Prop) {W : World} {a : Addr} {len : Nat}
    (key0 : ∀ i, i < len → ∃ x, Good x ∧ ∀ (j : Nat) (u : Value), (E.cells x)[j]? = some u → W.cell? ((a.add (i * E.sz)).add j) = some u)
    (hfirst : ∀ x, ∃ v, (E.cells x)[0]? = some v ∧ ∃ k n, v = .int k n ∨ ∃ b, v = .bool b) : ∃ l, RdC E W (some a) len l ∧ (0 < len → a.block < W.heap.size) ∧ ∀ x ∈ l, Good x := by
  have hpos := E.pos
  rcases Nat.eq_zero_or_pos len with h0 | h0
  · subst h0
    exact ⟨[], ⟨rfl, .inl rfl⟩, fun h => absurd h (by omega), by simp⟩
  · obtain ⟨x0, _, k0⟩ := key0 0 h0
    obtain ⟨v0, hv0, hf0⟩ := hfirst x0
    have hsp0 := addr_of_cellN (k0 0 _ hv0) hf0
    have ha0 : (a.add (0 * E.sz)).add 0 = a := by rw [Nat.zero_mul]; rfl
    rw [ha0] at hsp0
    obtain ⟨ab, ao, sp⟩ := a
    obtain ⟨hsp, hlt⟩ := hsp0
    simp only at hsp hlt
    subst hsp
    have key : ∀ i, i < len → ∃ x, Good x ∧ ∀ (j : Nat) (u : Value), (E.cells x)[j]? = some u → W.cell? ⟨ab, ao + (i * E.sz + j), none⟩ = some u := by
      intro i hi
      obtain ⟨x, hg, g1⟩ := key0 i hi
      refine ⟨x, hg, fun j u hu => ?_⟩
      have := g1 j u hu
      rwa [Addr.add_lit, Addr.add_mid, Nat.add_assoc] at this
    let L := (List.range len).attach.map fun i => Classical.choose (key i.1 (List.mem_range.1 i.2))
    have hL : ∀ (j : Nat) (x : α), L[j]? = some x → Good x ∧ ∀ (i : Nat) (u : Value), (E.cells x)[i]? = some u → W.cell? ⟨ab, ao + (j * E.sz + i), none⟩ = some u := by
      intro j x hj
      simp only [L] at hj
      rw [List.getElem?_map] at hj
      cases hq : (List.range len).attach[j]? with
      | none => rw [hq] at hj; cases hj
      | some q =>
        rw [hq] at hj
        simp only [Option.map_some, Option.some.injEq] at hj
        have hqj : q.1 = j := by
          obtain ⟨hl2, hq2⟩ := List.getElem?_eq_some_iff.1 hq
          rw [← hq2]; simp
        have := Classical.choose_spec (key q.1 (List.mem_range.1 q.2))
        rw [hj, hqj] at this
        exact this
    have hLl : L.length = len := by simp [L]
    clear_value L
    refine ⟨L, ⟨hLl, .inr ⟨ab, ao, rfl, hlt, fun j u hu => ?_⟩⟩, fun _ => hlt, fun x hx => ?_⟩
    · have hjl : j < L.length * E.sz := by
        rw [← E.all_len]
        exact (List.getElem?_eq_some_iff.1 hu).1
      have hq : j / E.sz < L.length := Nat.div_lt_of_lt_mul (by rw [Nat.mul_comm]; exact hjl)
      obtain ⟨x, hx⟩ : ∃ x, L[j / E.sz]? = some x := ⟨_, List.getElem?_eq_getElem hq⟩
      have hr' : j % E.sz < E.sz := Nat.mod_lt _ hpos
      have hj : j = j / E.sz * E.sz + j % E.sz := by rw [Nat.mul_comm]; exact (Nat.div_add_mod j E.sz).symm
      have h1 := E.all_get L _ x hx _ hr'
      rw [← hj, hu] at h1
      have := (hL _ x hx).2 _ u h1.symm
      rwa [← hj] at this
    · obtain ⟨j, hj⟩ := List.getElem?_of_mem hx
      exact (hL j x hj).1
theorem pick_all {α β : Type} {R : α → β → Prop} : ∀ (l : List α), (∀ x ∈ l, ∃ y, R x y) → ∃ m : List β, l.length = m.length ∧ ∀ (j : Nat) x y, l[j]? = some x → m[j]? = some y → R x y
  | [], _ => ⟨[], rfl, by simp⟩
  | x :: l, h => by
    obtain ⟨y, hy⟩ := h x (by simp)
    obtain ⟨m, hl, hm⟩ := pick_all l (fun z hz => h z (by simp [hz]))
    refine ⟨y :: m, by simp [hl], fun j a b ha hb => ?_⟩
    cases j with
    | zero => simp at ha hb; subst ha; subst hb; exact hy
    | succ j => simp at ha hb; exact hm j a b ha hb
theorem node_trod {W : World} : ∀ (fuel : Nat) (l : List Value) (y : DataW H × List MemPlace), DataW.trod enc Try.prog W 0 (fun _ => true) true fuel 25 l = some y →
    ∃ (f : NF) (n : Nd), l = f.cells ∧ NdI (fun b => b < W.heap.size) W f n := by
  intro fuel
  induction fuel using Nat.strongRecOn with
  | _ fuel ih =>
  intro l y hf
  have hC : Try.prog.cellsOf 25 = 3 := by kernel_rfl
  have c1 : Try.prog.cellsOf 3 = 1 := by kernel_rfl
  have c2 : Try.prog.cellsOf 22 = 1 := by kernel_rfl
  have c3 : Try.prog.cellsOf 23 = 1 := by kernel_rfl
  obtain ⟨xs, n', hn', hx', hlen, hxl, hfl⟩ := DataW.trod_struct Try.underlying25 hf
  have hsz := hlen.trans hC
  match l, hsz with
  | [v0, v1, v2], _ =>
    have hz : ∀ j, j < 3 → ∃ y, xs[j]? = some y := fun j hj => ⟨_, List.getElem?_eq_getElem (by rw [hxl]; exact hj)⟩
    obtain ⟨y0, hy0⟩ := hz 0 (by omega)
    obtain ⟨y1, hy1⟩ := hz 1 (by omega)
    obtain ⟨y2, hy2⟩ := hz 2 (by omega)
    have f0 : DataW.trod enc Try.prog W 0 (fun _ => true) true n' 3 (([v0, v1, v2].drop 0).take (Try.prog.cellsOf 3)) = some y0 := (hfl 0 _ rfl).trans hy0
    rw [c1] at f0
    have f1 : DataW.trod enc Try.prog W 0 (fun _ => true) true n' 22 (([v0, v1, v2].drop 1).take (Try.prog.cellsOf 22)) = some y1 := (hfl 1 _ rfl).trans hy1
    rw [c2] at f1
    have f2 : DataW.trod enc Try.prog W 0 (fun _ => true) true n' 23 (([v0, v1, v2].drop 2).take (Try.prog.cellsOf 23)) = some y2 := (hfl 2 _ rfl).trans hy2
    rw [c3] at f2
    obtain ⟨t, e0, _, _⟩ := DataW.trod_int Try.underlying3 f0
    simp at e0
    subst e0
    obtain ⟨A1, m1, k1, bs, rfl, h1⟩ := rdE_trodN f1
    have h1P : ∀ a : Addr, 0 < k1 → A1 = some a → a.block < W.heap.size := fun a h0 ha => by
      rcases h1 with h | ⟨_, h, _⟩
      · exact h.lt a ha
      · omega
    rcases DataW.trod_slice Try.underlying23 f2 with ⟨hcs, hx⟩ | ⟨a, len, cap, elems, rest, n2, hn2, hcs, _, _, hl, hm, hlen2, hel, _, _⟩
    · simp at hcs
      subst hcs
      exact ⟨⟨t, A1, m1, k1, none, 0, 0⟩, .mk t bs [], rfl, NdI.mk ⟨t, A1, m1, k1, none, 0, 0⟩ bs [] [] h1 h1P ⟨rfl, .inl rfl⟩ (Nat.zero_le _) (fun a ha => absurd ha (by simp)) rfl (by simp)⟩
    · simp at hcs
      subst hcs
      have key0 : ∀ i, i < len → ∃ x : NF, (∃ n, NdI (fun b => b < W.heap.size) W x n) ∧ ∀ (j : Nat) (u : Value), (Try.eN.cells x)[j]? = some u → W.cell? ((a.add (i * Try.eN.sz)).add j) = some u := by
        intro i hi
        have hb := hel i hi
        rw [List.getElem?_eq_getElem (by omega)] at hb
        obtain ⟨cs', hcell, htr⟩ := Option.bind_eq_some_iff.1 hb
        rw [hC] at hcell
        obtain ⟨x, n, hcs', hg⟩ := ih n2 (by omega) _ _ htr
        obtain ⟨_, hcl, hat⟩ := World.cells?_some hcell
        refine ⟨x, ⟨n, hg⟩, fun j u hu => ?_⟩
        have hj : j < 3 := by
          have h9 := (List.getElem?_eq_some_iff.1 hu).1
          rw [Try.eN.len x] at h9
          exact h9
        have h9 := hat j hj
        rw [hcs'] at h9
        exact h9.trans hu
      obtain ⟨fs, hR, hlt, hgood⟩ := rows_of_key Try.eN (fun x => ∃ n, NdI (fun b => b < W.heap.size) W x n) key0 (fun x => ⟨.int .i64 x.tag, rfl, _, _, .inl rfl⟩)
      obtain ⟨ks, hks, hnd⟩ := pick_all fs hgood
      exact ⟨⟨t, A1, m1, k1, some a, len, cap⟩, .mk t bs ks, rfl, NdI.mk ⟨t, A1, m1, k1, some a, len, cap⟩ bs fs ks h1 h1P hR (show len ≤ maxLen by omega) (fun a' h0 ha => by injection ha with ha; subst ha; exact hlt h0) hks hnd⟩
theorem open_node {W : World} {base : Nat} {v : Value} {d : DataW H} {p : List MemPlace} (hval : Value.okWide Try.prog W .any base 25 v) (h : DataW.Trod enc Try.prog W 0 (fun _ => true) true 25 v d p) :
    ∃ (f : NF) (n : Nd), v = f.val ∧ NdI (fun b => b < W.heap.size) W f n := by
  obtain ⟨cs, rfl, hsz⟩ := okWide_struct Try.underlying25 hval
  obtain ⟨fuel, hf⟩ := h
  obtain ⟨f, n, hl, hI⟩ := node_trod fuel _ _ hf
  obtain ⟨l⟩ := cs
  have hl : l = _ := hl
  subst hl
  exact ⟨f, n, rfl, hI⟩
end
end Go.Proofs.Ytgkhhinjdojbhaa
namespace Go.Proofs.Ytgkhhinjdojbhaa
open Go.RowKit Go.ChangeShapes Go.WideShapes Go.ChangeAt Go.Deep Go.Joins
section
variable {H : Type} {enc : TypeId × Value → H}
theorem open_rowM {α : Type} (E : ETy α) {W : World} {base : Nat} {v : Value} {d : DataW H} {p : List MemPlace} (hC : Try.prog.cellsOf E.t = E.sz)
    (hinv : ∀ n cs y, DataW.trod enc Try.prog W 0 (fun _ => true) true n E.t cs = some y → ∃ x, cs = E.cells x)
    (hfirst : ∀ x, ∃ v, (E.cells x)[0]? = some v ∧ ∃ k n, v = .int k n ∨ ∃ b, v = .bool b)
    (hval : Value.okWide Try.prog W .any base E.ts v) (h : DataW.Trod enc Try.prog W 0 (fun _ => true) true E.ts v d p) :
    ∃ A m c l, v = .slice A m c ∧ (m ≤ c ∧ c ≤ maxLen) ∧ (A = none → c = 0) ∧ RdC E W A m l := by
  obtain ⟨a1, len, cap, rfl⟩ := okWide_slice E.und hval
  obtain ⟨fuel, hf⟩ := h
  rcases open_slice E.und hf with ⟨hcs, hx⟩ | ⟨a, len', cap', m, n, D, Pl, hcs, _, hl, hm, hmm, hx, hr⟩
  · simp [Value.cells] at hcs
    obtain ⟨rfl, rfl, rfl⟩ := hcs
    exact ⟨_, _, _, [], rfl, ⟨Nat.le_refl _, Nat.zero_le _⟩, fun _ => rfl, ⟨rfl, .inl rfl⟩⟩
  · simp [Value.cells] at hcs
    obtain ⟨rfl, rfl, rfl⟩ := hcs
    simp only [if_true] at hmm
    have key0 : ∀ i, i < len → ∃ x, True ∧ ∀ (j : Nat) (u : Value), (E.cells x)[j]? = some u → W.cell? ((a.add (i * E.sz)).add j) = some u := by
      intro i hi
      obtain ⟨cs', hcell, htr⟩ := hr i (by omega)
      rw [hC] at hcell
      obtain ⟨x, hcs'⟩ := hinv _ _ _ htr
      obtain ⟨_, hcl, hat⟩ := World.cells?_some hcell
      refine ⟨x, trivial, fun j u hu => ?_⟩
      have hj : j < E.sz := by
        rw [← E.len x]
        exact (List.getElem?_eq_some_iff.1 hu).1
      rw [hat j hj, hcs']
      exact hu
    obtain ⟨l, hR, _, _⟩ := rows_of_key E (fun _ => True) key0 hfirst
    exact ⟨_, len, cap, l, rfl, ⟨hl, hm⟩, (fun h => nomatch h), hR⟩
theorem open_nat {W : World} {base : Nat} {v : Value} {d : DataW H} {p : List MemPlace} (hval : Value.okWide Try.prog W .any base 38 v) (h : DataW.Trod enc Try.prog W 0 (fun _ => true) true 38 v d p) :
    ∃ A m c l, v = .slice A m c ∧ (m ≤ c ∧ c ≤ maxLen) ∧ (A = none → c = 0) ∧ RdC Try.eU W A m l := by
  refine open_rowM Try.eU (by kernel_rfl) (fun n cs y hy => ?_) (fun x => ⟨_, rfl, _, _, .inl rfl⟩) hval h
  obtain ⟨t, e0, _, hw⟩ := DataW.trod_int Try.underlying58 hy
  have hr : 0 ≤ t ∧ t ≤ 18446744073709551615 := by
    simpa [Lit.wf, IntKind.min, IntKind.max, IntKind.bits, IntKind.signed] using hw
  refine ⟨UInt64.ofNat t.toNat, ?_⟩
  show cs = [.int .u64 ((UInt64.ofNat t.toNat).toNat : Int)]
  rw [UInt64.toNat_ofNat', Nat.mod_eq_of_lt (by omega), show ((t.toNat : Nat) : Int) = t by omega]
  exact e0
theorem open_ints1 {W : World} {base : Nat} {v : Value} {d : DataW H} {p : List MemPlace} (hval : Value.okWide Try.prog W .any base 39 v) (h : DataW.Trod enc Try.prog W 0 (fun _ => true) true 39 v d p) :
    ∃ A m c l, v = .slice A m c ∧ (m ≤ c ∧ c ≤ maxLen) ∧ (A = none → c = 0) ∧ RdC Try.eI W A m l := by
  refine open_rowM Try.eI (by kernel_rfl) (fun n cs y hy => ?_) (fun x => ⟨_, rfl, _, _, .inl rfl⟩) hval h
  obtain ⟨t, e0, _, hw⟩ := DataW.trod_int Try.underlying3 hy
  exact ⟨t, e0⟩
end
end Go.Proofs.Ytgkhhinjdojbhaa
