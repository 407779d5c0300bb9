/-
  A slice of operations that came in: numbers, bytes, bools.
-/
import Derived.Test.YtpfijfflfgfojaaOpenP
import Derived.Test.YtpfijfflfgfojaaRef4
import Derived.Deep.Slices
namespace Go.Proofs.Ytpfijfflfgfojaa
open Go.RowKit Go.ChangeShapes Go.WideShapes Go.ChangeAt Go.Deep

/-- An operation: its numbers, its bytes, its bools. -/
structure OpV where
  kind : Int
  i : Int
  n : Int
  A : Option Addr
  m : Nat
  c : Nat
  l : List UInt8
  kA : Option Addr
  kc : Nat
  kl : List Bool
  wi : -9223372036854775808 ≤ i ∧ i ≤ 9223372036854775807
  wn : -9223372036854775808 ≤ n ∧ n ≤ 9223372036854775807
  wk : kl.length ≤ 9223372036854775807
def OpV.cells (o : OpV) : Array Value := #[.int .i64 o.kind, .int .i64 o.i, .int .i64 o.n, .slice o.A o.m o.c, .slice o.kA o.kl.length o.kc]
structure OpAt (W : World) (b off : Nat) (o : OpV) : Prop where
  c0 : W.cell? ⟨b, off, none⟩ = some (.int .i64 o.kind)
  c1 : W.cell? ⟨b, off + 1, none⟩ = some (.int .i64 o.i)
  c2 : W.cell? ⟨b, off + 2, none⟩ = some (.int .i64 o.n)
  c3 : W.cell? ⟨b, off + 3, none⟩ = some (.slice o.A o.m o.c)
  c4 : W.cell? ⟨b, off + 4, none⟩ = some (.slice o.kA o.kl.length o.kc)
  rd : RdE W o.A o.m o.c o.l
  kp : RdB W o.kA o.kl.length o.kl
def OpsAt (W : World) (A : Option Addr) (m : Nat) (os : List OpV) : Prop :=
  os.length = m ∧ (m = 0 ∨ ∃ b off, A = some ⟨b, off, none⟩ ∧ b < W.heap.size ∧ ∀ (j : Nat) (o : OpV), os[j]? = some o → OpAt W b (off + j * 5) o)
theorem OpAt.old {W W' : World} {b off : Nat} {o : OpV} (h : OpAt W b off o) (hb : b < W.heap.size) (ho : Old W W') : OpAt W' b off o := by
  have k : ∀ q, W'.cell? ⟨b, q, none⟩ = W.cell? ⟨b, q, none⟩ := fun q => Below.cell (p := ⟨b, q, none⟩) ho hb
  exact ⟨(k _).trans h.c0, (k _).trans h.c1, (k _).trans h.c2, (k _).trans h.c3, (k _).trans h.c4, h.rd.below ho, h.kp.below ho⟩
section
variable {H : Type} {enc : TypeId × Value → H}
theorem take_one {l : List Value} {j : Nat} {v : Value} (h : (l.drop j).take 1 = [v]) : l[j]? = some v := by
  have := congrArg (fun z => z[0]?) h
  simpa [List.getElem?_take, List.getElem?_drop] using this
theorem take_some {l : List Value} {j : Nat} (h : j < l.length) : ∃ v, (l.drop j).take 1 = [v] ∧ l[j]? = some v := by
  refine ⟨l[j], ?_, List.getElem?_eq_getElem h⟩
  rw [List.drop_eq_getElem_cons h]
  rfl
theorem addr_of_cell {W : World} {a : Addr} {v : Value} (h : W.cell? a = some v) (hv : ∃ k n, v = .int k n ∨ ∃ b, v = .bool b) : a.spot = none ∧ a.block < W.heap.size := by
  obtain ⟨ab, ao, sp⟩ := a
  unfold World.cell? at h
  simp only at h
  split at h
  · rename_i cs t fr hh
    refine ⟨?_, (Array.getElem?_eq_some_iff.1 hh).1⟩
    cases sp with
    | none => rfl
    | some s => simp at h
  · cases h
theorem rdE_trod {W : World} {n : Nat} {v : Value} {y : DataW H × List MemPlace} (h : DataW.trod enc Try.prog W 0 (fun _ => true) true n 28 [v] = some y) : ∃ A m c l, v = .slice A m c ∧ RdE W A m c l := by
  rcases open_ints Try.underlying28 Try.underlying5 (show Try.prog.cellsOf 5 = 1 by kernel_rfl) h with ⟨hcs, hx⟩ | ⟨a, len', cap', zs, hcs, _, hl, hm, hz, hx, hcell, hwz⟩
  · simp at hcs
    exact ⟨_, _, _, [], hcs, .inl (Rd.nil W)⟩
  · simp at hcs
    refine ⟨_, _, _, (zs.take len').map fun n => UInt8.ofNat n.toNat, hcs, ?_⟩
    simp only [if_true] at hz
    rcases Nat.eq_zero_or_pos cap' with h0 | h0
    · exact .inr ⟨by omega, h0, by rw [show len' = 0 by omega]; rfl⟩
    · have hc0 := hcell 0 (by omega)
      obtain ⟨hsp, hlt⟩ := addr_of_cell hc0 ⟨_, _, .inl rfl⟩
      obtain ⟨ab, ao, sp⟩ := a
      have hlt' : ab < W.heap.size := by
        have : (Addr.add ⟨ab, ao, sp⟩ 0).block = ab := by unfold Addr.add; split <;> rfl
        rwa [this] at hlt
      have hsp' : sp = none := by
        rw [show Addr.add ⟨ab, ao, sp⟩ 0 = ⟨ab, ao, sp⟩ from rfl] at hsp
        exact hsp
      subst hsp'
      refine .inl ⟨by simp; omega, hl, hm, .inr ⟨ab, ao, rfl, hlt', fun k x hk => ?_⟩⟩
      have hk' : k < len' := by
        have := (List.getElem?_eq_some_iff.1 hk).1
        simp at this; omega
      have hc := hcell k (by omega)
      rw [Addr.add_lit] at hc
      rw [hc]
      have e : zs[k]? = some (zs.getD k 0) := by simp [List.getD, List.getElem?_eq_getElem (show k < zs.length by omega)]
      rw [List.getElem?_map, List.getElem?_take, if_pos hk', e] at hk
      simp only [Option.map_some, Option.some.injEq] at hk
      have hw := hwz (zs.getD k 0) (List.mem_of_getElem? e)
      have hr : 0 ≤ zs.getD k 0 ∧ zs.getD k 0 ≤ 255 := by
        simpa [Lit.wf, IntKind.min, IntKind.max, IntKind.bits, IntKind.signed] using hw
      subst hk
      unfold B
      rw [UInt8.toNat_ofNat']
      congr 2
      omega
theorem rdB_trod {W : World} {n : Nat} {v : Value} {y : DataW H × List MemPlace} (h : DataW.trod enc Try.prog W 0 (fun _ => true) true n 29 [v] = some y) : ∃ A c kl, v = .slice A (List.length kl) c ∧ RdB W A (List.length kl) kl ∧ List.length kl ≤ 9223372036854775807 := by
  rcases open_slice Try.underlying29 h with ⟨hcs, hx⟩ | ⟨a, len, cap, m, n', D, Pl, hcs, _, hl, hm, hmm, hx, hr⟩
  · simp at hcs
    exact ⟨_, _, [], hcs, ⟨rfl, .inl rfl⟩, by simp⟩
  · simp at hcs
    simp only [if_true] at hmm
    unfold maxLen at hm
    have c1 : Try.prog.cellsOf 4 = 1 := by kernel_rfl
    have key : ∀ i, i < len → ∃ x : Bool, W.cell? (a.add i) = some (.bool x) := by
      intro i hi
      obtain ⟨cs', hcell, htr⟩ := hr i (by omega)
      rw [c1, Nat.mul_one] at hcell
      obtain ⟨x, e1, _⟩ := DataW.trod_bool Try.underlying4 htr
      obtain ⟨_, hcl, hat⟩ := World.cells?_some hcell
      have := hat 0 (by omega)
      rw [e1] at this
      refine ⟨x, ?_⟩
      have e0 : (a.add i).add 0 = a.add i := rfl
      rw [e0] at this
      simpa using this
    rcases Nat.eq_zero_or_pos len with h0 | h0
    · subst h0
      exact ⟨_, _, [], hcs, ⟨rfl, .inl rfl⟩, by simp⟩
    · obtain ⟨x0, hx0⟩ := key 0 h0
      obtain ⟨hsp, hlt⟩ := addr_of_cell hx0 ⟨.i64, 0, .inr ⟨x0, rfl⟩⟩
      rw [show a.add 0 = a from rfl] at hsp hlt
      obtain ⟨ab, ao, sp⟩ := a
      simp only at hsp hlt
      subst hsp
      refine ⟨some ⟨ab, ao, none⟩, cap, (List.range len).attach.map fun i => Classical.choose (key i.1 (List.mem_range.1 i.2)), by rw [hcs]; simp, ⟨rfl, .inr ⟨ab, ao, rfl, hlt, fun j x hj => ?_⟩⟩, by simp; omega⟩
      rw [List.getElem?_map] at hj
      cases hq : (List.range len).attach[j]? with
      | none => rw [hq] at hj; cases hj
      | some q =>
        rw [hq] at hj
        simp only [Option.map_some, Option.some.injEq] at hj
        have hqj : q.1 = j := by
          obtain ⟨hl2, hq2⟩ := List.getElem?_eq_some_iff.1 hq
          rw [← hq2]; simp
        have := Classical.choose_spec (key q.1 (List.mem_range.1 q.2))
        rw [hj, hqj, Addr.add_lit] at this
        exact this
theorem open_ops {W : World} {base : Nat} {v : Value} {d : DataW H} {p : List MemPlace} (hval : Value.okWide Try.prog W .any base 22 v) (h : DataW.Trod enc Try.prog W 0 (fun _ => true) true 22 v d p) :
    ∃ A m c os, v = .slice A m c ∧ m ≤ maxLen ∧ OpsAt W A m os := by
  have hval' := hval
  obtain ⟨a1, len, cap, rfl⟩ := okWide_slice Try.underlying22 hval
  obtain ⟨fuel, hf⟩ := h
  rcases open_slice Try.underlying22 hf with ⟨hcs, hx⟩ | ⟨a, len', cap', m, n, D, Pl, hcs, _, hl, hm, hmm, hx, hr⟩
  · simp [Value.cells] at hcs
    obtain ⟨rfl, rfl, rfl⟩ := hcs
    exact ⟨_, _, _, [], rfl, Nat.zero_le _, rfl, .inl rfl⟩
  · simp [Value.cells] at hcs
    obtain ⟨rfl, rfl, rfl⟩ := hcs
    unfold Value.okWide Cell.okWide Cell.ok at hval'
    rw [Try.underlying22] at hval'
    obtain ⟨_, _, _, hspot, row, cells, hsh, _⟩ := hval'
    have hlt : a.block < W.heap.size := by
      unfold World.shape? at hsh
      rcases Nat.lt_or_ge a.block W.heap.size with h | h
      · exact h
      · rw [Array.getElem?_eq_none h] at hsh; cases hsh
    obtain ⟨ab, ao, spot⟩ := a
    simp only at hspot hlt
    subst hspot
    have hC : Try.prog.cellsOf 31 = 5 := by kernel_rfl
    have c1 : Try.prog.cellsOf 3 = 1 := by kernel_rfl
    have c2 : Try.prog.cellsOf 28 = 1 := by kernel_rfl
    have c3 : Try.prog.cellsOf 29 = 1 := by kernel_rfl
    simp only [if_true] at hmm
    have key : ∀ i, i < len → ∃ o : OpV, OpAt W ab (ao + i * 5) o := by
      intro i hi
      obtain ⟨cs', hcell, htr⟩ := hr i (by omega)
      rw [hC] at hcell
      obtain ⟨xs, n', _, hx', hlen, hxl, hfl⟩ := DataW.trod_struct Try.underlying31 htr
      obtain ⟨_, hcl, hat⟩ := World.cells?_some hcell
      rw [hC] at hlen
      have hz : ∀ j, j < 5 → ∃ y, xs[j]? = some y := fun j hj => ⟨_, List.getElem?_eq_getElem (by rw [hxl]; exact hj)⟩
      obtain ⟨y0, hy0⟩ := hz 0 (by omega)
      obtain ⟨y1, hy1⟩ := hz 1 (by omega)
      obtain ⟨y2, hy2⟩ := hz 2 (by omega)
      obtain ⟨y3, hy3⟩ := hz 3 (by omega)
      obtain ⟨y4, hy4⟩ := hz 4 (by omega)
      have f0 : DataW.trod enc Try.prog W 0 (fun _ => true) true n' 3 ((cs'.drop 0).take (Try.prog.cellsOf 3)) = some y0 := (hfl 0 _ rfl).trans hy0
      have f1 : DataW.trod enc Try.prog W 0 (fun _ => true) true n' 3 ((cs'.drop 1).take (Try.prog.cellsOf 3)) = some y1 := (hfl 1 _ rfl).trans hy1
      have f2 : DataW.trod enc Try.prog W 0 (fun _ => true) true n' 3 ((cs'.drop 2).take (Try.prog.cellsOf 3)) = some y2 := (hfl 2 _ rfl).trans hy2
      have f3 : DataW.trod enc Try.prog W 0 (fun _ => true) true n' 28 ((cs'.drop 3).take (Try.prog.cellsOf 28)) = some y3 := (hfl 3 _ rfl).trans hy3
      have f4 : DataW.trod enc Try.prog W 0 (fun _ => true) true n' 29 ((cs'.drop 4).take (Try.prog.cellsOf 29)) = some y4 := (hfl 4 _ rfl).trans hy4
      rw [c1] at f0 f1 f2
      rw [c2] at f3
      rw [c3] at f4
      obtain ⟨n0, e0, _, w0⟩ := DataW.trod_int Try.underlying3 f0
      obtain ⟨n1, e1, _, w1⟩ := DataW.trod_int Try.underlying3 f1
      obtain ⟨n2, e2, _, w2⟩ := DataW.trod_int Try.underlying3 f2
      obtain ⟨v3, t3, g3⟩ := take_some (l := cs') (j := 3) (by omega)
      obtain ⟨v4, t4, g4⟩ := take_some (l := cs') (j := 4) (by omega)
      rw [t3] at f3
      rw [t4] at f4
      obtain ⟨A3, m3, c3', l3, rfl, hrd⟩ := rdE_trod f3
      obtain ⟨A4, c4', kl, rfl, hrb, hkl⟩ := rdB_trod f4
      have hadd : ∀ j, (((⟨ab, ao, none⟩ : Addr).add (i * 5)).add j) = ⟨ab, ao + i * 5 + j, none⟩ := fun j => by rw [Addr.add_lit, Addr.add_mid]
      have hc : ∀ j u, j < 5 → cs'[j]? = some u → W.cell? ⟨ab, ao + i * 5 + j, none⟩ = some u := fun j u hj hu => by
        have := hat j hj
        rw [hadd] at this
        rw [this]; exact hu
      exact ⟨⟨n0, n1, n2, A3, m3, c3', l3, A4, c4', kl, i64_wf w1, i64_wf w2, hkl⟩, hc 0 _ (by omega) (take_one e0), hc 1 _ (by omega) (take_one e1), hc 2 _ (by omega) (take_one e2), hc 3 _ (by omega) g3, hc 4 _ (by omega) g4, hrd, hrb⟩
    refine ⟨_, len, cap, (List.range len).attach.map fun i => Classical.choose (key i.1 (List.mem_range.1 i.2)), rfl, by omega, by simp, .inr ⟨ab, ao, rfl, hlt, fun j e hj => ?_⟩⟩
    rw [List.getElem?_map] at hj
    cases hq : (List.range len).attach[j]? with
    | none => rw [hq] at hj; cases hj
    | some q =>
      rw [hq] at hj
      simp only [Option.map_some, Option.some.injEq] at hj
      have hqj : q.1 = j := by
        obtain ⟨hl2, hq2⟩ := List.getElem?_eq_some_iff.1 hq
        rw [← hq2]; simp
      have := Classical.choose_spec (key q.1 (List.mem_range.1 q.2))
      rw [hj, hqj] at this
      exact this
end
end Go.Proofs.Ytpfijfflfgfojaa
