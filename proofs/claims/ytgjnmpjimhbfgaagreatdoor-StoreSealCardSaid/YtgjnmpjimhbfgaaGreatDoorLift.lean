/-
  What a law's statement gives its walk: the arguments as values; the arguments read behind the call as they did. Over any law of this seat.
-/
import Derived.Test.YtgjnmpjimhbfgaaGreatDoorZzNoB
import Derived.Test.YtgjnmpjimhbfgaaGreatDoorRows
import Derived.ProofKit
import Derived.LaidMore
import Derived.OpenShut
import Derived.Carry
import Derived.Stop.Joined
namespace Go.Proofs.YtgjnmpjimhbfgaaGreatDoor
set_option maxRecDepth 100000
open Go.RowKit Go.ChangeShapes Go.WideShapes Go.ChangeAt
theorem ownKnob_none : ownKnob Tryz.prog.godebug = none := by kernel_rfl
theorem laid_out : laidOutB Tryz.prog = true := by kernel_rfl
section
variable {H : Type} {enc : TypeId × Value → H}
theorem open_rd {W : World} {base : Nat} {v : Value} {d : DataW H} {p : List MemPlace} (hval : Value.okWide Tryz.prog W .any base 32 v) (h : DataW.Trod enc Tryz.prog W 0 (fun _ => true) true 32 v d p) :
  ∃ A m c l, v = .slice A m c ∧ Rd W A m c l := by
 have hval' := hval
 obtain ⟨a1, len, cap, rfl⟩ := okWide_slice Tryz.underlying32 hval
 obtain ⟨fuel, hf⟩ := h
 rcases open_ints Tryz.underlying32 Tryz.underlying5 (show Tryz.prog.cellsOf 5 = 1 by kernel_rfl) hf with ⟨hcs, hx⟩ | ⟨a, len', cap', zs, hcs, _, hl, hm, hz, hx, hcell, hwz⟩
 ·simp [Value.cells] at hcs
  obtain ⟨rfl, rfl, rfl⟩ := hcs
  exact ⟨_, _, _, [], rfl, Rd.nil W⟩
 ·simp [Value.cells] at hcs
  obtain ⟨rfl, rfl, rfl⟩ := hcs
  simp only [if_true] at hz
  unfold Value.okWide Cell.okWide Cell.ok at hval'
  rw [Tryz.underlying32] at hval'
  obtain ⟨_, _, _, hspot, row, cells, hsh, _⟩ := hval'
  have hlt : a.block < W.heap.size := by
   unfold World.shape? at hsh
   rcases Nat.lt_or_ge a.block W.heap.size with h | h
   ·exact h
   ·rw [Array.getElem?_eq_none h] at hsh; cases hsh
  obtain ⟨ab, ao, spot⟩ := a
  simp only at hspot hlt
  subst hspot
  refine ⟨_, len, cap, (zs.take len).map fun n => UInt8.ofNat n.toNat, rfl, by simp; omega, hl, hm, .inr ⟨ab, ao, rfl, hlt, fun k x hk => ?_⟩⟩
  have hk' : k < len := by
   have := (List.getElem?_eq_some_iff.1 hk).1
   simp at this; omega
  have hc := hcell k (by omega)
  rw [Addr.add_lit] at hc
  rw [hc]
  have e : zs[k]? = some (zs.getD k 0) := by simp [List.getD, List.getElem?_eq_getElem (show k < zs.length by omega)]
  rw [List.getElem?_map, List.getElem?_take, if_pos hk', e] at hk
  simp only [Option.map_some, Option.some.injEq] at hk
  have hw := hwz (zs.getD k 0) (List.mem_of_getElem? e)
  have hr : 0 ≤ zs.getD k 0 ∧ zs.getD k 0 ≤ 255 := by
   simpa [Lit.wf, IntKind.min, IntKind.max, IntKind.bits, IntKind.signed] using hw
  subst hk
  unfold B
  rw [UInt8.toNat_ofNat']
  congr 2
  omega
theorem below_all {W W' : World} (hb : Below W.heap.size W W') : ∀ {ts : List TypeId} {vs : List Value} {ds : List (DataW H)} {ps : List MemPlace}, (∀ t ∈ ts, Tryz.prog.readableRec t = true ∧ t < Tryz.prog.types.size) →
  DataW.TrodAll enc Tryz.prog W 0 (fun _ => true) true ts vs ds ps → (∀ x ∈ ps, x.block < W.heap.size) → DataW.TrodAll enc Tryz.prog W' 0 (fun b => decide (b < W.heap.size)) true ts vs ds ps
 | [], [], [], _, _, h, _ => h
 | _ :: _, _ :: _, _ :: _, _, hT, ⟨p, q, h1, h2, e⟩, hs =>
  ⟨p, q, Below.trod laid_out (hT _ (List.mem_cons.2 (.inl rfl))).1 (hT _ (List.mem_cons.2 (.inl rfl))).2 h1 hb (fun x hx => hs x (by rw [e]; exact List.mem_append_left _ hx)),
   below_all hb (fun t ht => hT t (List.mem_cons.2 (.inr ht))) h2 (fun x hx => hs x (by rw [e]; exact List.mem_append_right _ hx)), e⟩
theorem u8_wf {n : Int} (h : (Lit.int .u8 n).wf = true) : ∃ x : UInt8, n = (x.toNat : Int) := by
 have hr : 0 ≤ n ∧ n ≤ 255 := by simpa [Lit.wf, IntKind.min, IntKind.max, IntKind.bits, IntKind.signed] using h
 refine ⟨UInt8.ofNat n.toNat, ?_⟩
 rw [UInt8.toNat_ofNat']
 omega
theorem i64_wf {n : Int} (h : (Lit.int .i64 n).wf = true) : -9223372036854775808 ≤ n ∧ n ≤ 9223372036854775807 := by
 simpa [Lit.wf, IntKind.min, IntKind.max, IntKind.bits, IntKind.signed] using h
theorem law_post {f : Func} {s : ChangeSpec} {W W' : World} {args : Array Value} {ds : List (DataW H)} {ps : List MemPlace} {handsOn : Bool} {fresh : Bool} (hv : s.vars = []) (hr : f.resultTypes = #[4]) (hT : ∀ t ∈ f.params.toList, Tryz.prog.readableRec t = true ∧ t < Tryz.prog.types.size)
  (hW : DataW.Whole enc Tryz.prog f.params.toList s.vars false W args.toList ds [] ps) (hs : s.fn H ds = { results := [.lit (.bool true)], args := ds }) (hb : Below W.heap.size W W') : s.post enc Tryz.prog f false fresh handsOn false W args (.bool true) W' := by
 have hW' := hW
 have hlt := hW.lt
 obtain ⟨p, q, hA, hV, rfl, _, _⟩ := hW
 rw [hv] at hV
 obtain ⟨_, rfl⟩ := trodVars_none hV
 simp only [List.append_nil] at *
 refine ⟨ds, [], p, [], p, [], hW', ?_, ?_, ?_, hb.frame _, fun h => by cases h⟩
 ·rw [List.append_nil, hs, hr]
  exact trodAll_mk1 (shut_bool Tryz.underlying4 _)
 ·rw [List.append_nil, hs]
  exact below_all hb hT hA hlt
 ·rw [List.append_nil, hs, hv]
  rfl
end
end Go.Proofs.YtgjnmpjimhbfgaaGreatDoor
