/-
  append on bytes, told by one closed word: 'Grew'. And rows of bytes that are written in a loop.
-/
import Derived.Test.YtgjnmpjimhbfgaaGreatDoorZzWBe
import Derived.Deep.DeepMust
import Derived.Deep.DrawnRows
import Derived.Deep.RegionHeld3
import Derived.Test.YtgjnmpjimhbfgaaGreatDoorZzWordsB
namespace Go.Proofs.YtgjnmpjimhbfgaaGreatDoor
set_option maxRecDepth 100000
open Go.RowKit
structure Grew (base : Nat) (w w' : World) (v : Value) (A : Option Addr) (n c : Nat) (l : List UInt8) : Prop where
 len : n = l.length
 own : Own w' base (.slice A n c) l
 below : Below base w w'
 grown : w.grownBy w' v.ownBlock
 at_ : (Value.slice A n c).ownBlock = v.ownBlock ∨ (Value.slice A n c).ownBlock = some w.heap.size
 nil : Value.slice A n c = .slice none 0 0 → l = []
theorem Own.len {w : World} {base n c : Nat} {A : Option Addr} {l : List UInt8} (h : Own w base (.slice A n c) l) : n = l.length := by
 obtain ⟨A', c', e, _⟩ := h.shape
 cases e; rfl
theorem Own.rd {w : World} {base n c : Nat} {A : Option Addr} {l : List UInt8} (h : Own w base (.slice A n c) l) : Rd w A n c l := by
 obtain ⟨A', c', e, hr, _⟩ := h.shape
 cases e; exact hr
theorem Own.addr_ge {w : World} {base n c : Nat} {A : Option Addr} {l : List UInt8} (h : Own w base (.slice A n c) l) : ∀ ad, A = some ad → base ≤ ad.block := by
 obtain ⟨A', c', e, hr, hb⟩ := h.shape
 cases e; exact hb
theorem Own.alloc_ {w : World} {base : Nat} {v : Value} {l : List UInt8} (h : Own w base v l) (o : Obj) : Own (w.alloc o) base v l := h.below ((Below.refl _ _).alloc (Nat.le_refl _) _)
theorem Own.nil (w : World) (base : Nat) : Own w base (.slice none 0 0) [] := World.ownsRow_nil _ _ _ _
theorem grew_of {w w' : World} {base : Nat} {v v' : Value} {l l2 : List UInt8} (hown : Own w base v l) (hbase : base ≤ w.heap.size) (h1 : Own w' base v' (l ++ l2)) (h2 : w.grownBy w' v.ownBlock) (h3 : v' = .slice none 0 0 ↔ v = .slice none 0 0 ∧ l2 = [])
  (h4 : v'.ownBlock = v.ownBlock ∨ v'.ownBlock = some w.heap.size) : ∃ A n c, v' = .slice A n c ∧ (n : Int) ≤ 9223372036854775807 ∧ Grew base w w' v A n c (l ++ l2) := by
 obtain ⟨A, c, rfl, hr, _⟩ := h1.shape
 have hm := hr.2.1
 have hm2 := hr.2.2.1
 unfold maxLen at hm2
 refine ⟨A, _, c, rfl, by omega, rfl, h1, (Below.refl base w).grown h2 hbase (fun k hk => (hown.lt hk).1), h2, h4, fun e => ?_⟩
 obtain ⟨rfl, rfl⟩ := h3.1 e
 obtain ⟨A', c', e', hr', _⟩ := hown.shape
 injection e' with _ e2 _
 rw [List.append_nil]; exact List.length_eq_zero_iff.1 e2.symm
theorem wp_app2 {ops : Array Oper} {rest : List Oper} {o : Oper} {a : Act} {w : World} {Q : Exit → Act → World → Prop} (s x : Operand) (base : Nat) (v : Value) (l : List UInt8) (hown : Own w base v l) (hbase : base ≤ w.heap.size)
  (A : Option Addr) (m c : Nat) (l2 : List UInt8) (hrd : Rd w A m c l2) (hlen : l.length + l2.length ≤ 140737488355328) (hgd : o.guard = none)
  (ho : o.op = .call { callee := .builtin .append, args := #[s, x], argTypes := #[32, 32] }) (hs : a.eval s = v) (hx : a.eval x = .slice A m c)
  (h : ∀ (A' : Option Addr) (n' c' : Nat) (w' : World), (n' : Int) ≤ 9223372036854775807 → Grew base w w' v A' n' c' (l ++ l2) → wpList Tryz.prog ops Q rest (a.put o.dst (.slice A' n' c')) w') : wpList Tryz.prog ops Q (o :: rest) a w :=
 wp_app hgd s x ho base v l hs hown A m c l2 hx hrd hlen hbase fun v' w' h1 h2 h3 h4 => by
  obtain ⟨A', n', c', rfl, hn, hg⟩ := grew_of hown hbase h1 h2 h3 h4
  exact h _ _ _ _ hn hg
theorem rd_lit {w : World} {l2 : List UInt8} {cs : Array Value} {n : Nat} (hcs : cs = (l2.map B).toArray) (hn : n = l2.length) (hl : n ≤ 1000000) : Rd (w.alloc (.cells cs 5)) (some ⟨w.heap.size, 0, none⟩) n n l2 := by
 subst hcs hn
 exact Rd.of_blk (heap_alloc_new w _) (by unfold maxLen; omega)
theorem wp_app_lit {ops : Array Oper} {rest : List Oper} {o : Oper} {a : Act} {w : World} {Q : Exit → Act → World → Prop} (s x : Operand) (base : Nat) (v : Value) (l : List UInt8) (hown : Own w base v l) (hbase : base ≤ w.heap.size)
  (l2 : List UInt8) (hlen : l.length ≤ 140737488354000) (hl2 : l2.length ≤ 1000) (hgd : o.guard = none)
  (ho : o.op = .call { callee := .builtin .append, args := #[s, x], argTypes := #[32, 32] }) (hs : a.eval s = v) {n : Nat} {cs : Array Value} (hcs : cs = (l2.map B).toArray) (hn : n = l2.length) (hx : a.eval x = .slice (some ⟨w.heap.size, 0, none⟩) n n)
  (h : ∀ (A' : Option Addr) (n' c' : Nat) (w' : World), (n' : Int) ≤ 9223372036854775807 → Grew base (w.alloc (.cells cs 5)) w' v A' n' c' (l ++ l2) → wpList Tryz.prog ops Q rest (a.put o.dst (.slice A' n' c')) w') : wpList Tryz.prog ops Q (o :: rest) a (w.alloc (.cells cs 5)) :=
 wp_app2 s x base v l (hown.alloc_ _) (by simp; omega) _ n n l2 (rd_lit hcs hn (by omega)) (by omega) hgd ho hs hx h
theorem step_app2 {ops : Array Oper} {o : Oper} {a : Act} {w : World} {K : Act → World → Prop} {Q : Exit → Act → World → Prop} {E : Prop} (s x : Operand) (base : Nat) (v : Value) (l : List UInt8) (hown : Own w base v l) (hbase : base ≤ w.heap.size)
  (A : Option Addr) (m c : Nat) (l2 : List UInt8) (hrd : Rd w A m c l2) (hlen : l.length + l2.length ≤ 140737488355328) (hgd : o.guard = none)
  (ho : o.op = .call { callee := .builtin .append, args := #[s, x], argTypes := #[32, 32] }) (hs : a.eval s = v) (hx : a.eval x = .slice A m c)
  (h : ∀ (A' : Option Addr) (n' c' : Nat) (w' : World), (n' : Int) ≤ 9223372036854775807 → Grew base w w' v A' n' c' (l ++ l2) → K (a.put o.dst (.slice A' n' c')) w') :
  if Region.wanted o (yielded ops a.tmps) = true then Oper.wp Tryz.prog o a w K Q else E :=
 step_app hgd s x ho base v l hs hown A m c l2 hx hrd hlen hbase fun v' w' h1 h2 h3 h4 => by
  obtain ⟨A', n', c', rfl, hn, hg⟩ := grew_of hown hbase h1 h2 h3 h4
  exact h _ _ _ _ hn hg
theorem kept {w1 w2 : World} {v : Value} {base g k : Nat} {l : List UInt8} {u : Value} (hO : Own w1 base v l) (hg : w1.grownBy w2 v.ownBlock) (h : g < base) (hb : base ≤ w1.heap.size) (hc : w1.cell? ⟨g, k, none⟩ = some u) : w2.cell? ⟨g, k, none⟩ = some u := by
 rw [World.cell?_of_block (a := ⟨g, k, none⟩) (hg.block g (by omega) (fun e => by have := (hO.lt e.symm).1; omega))]; exact hc
theorem Grew.kept {base : Nat} {w w' : World} {v : Value} {A : Option Addr} {n c g k : Nat} {l : List UInt8} {u : Value} (h : Grew base w w' v A n c l) (hg : g < base) (hc : w.cell? ⟨g, k, none⟩ = some u) : w'.cell? ⟨g, k, none⟩ = some u :=
 (h.below.cell (p := ⟨g, k, none⟩) hg).trans hc
theorem Own.frozen {w : World} {base g n c : Nat} {l : List UInt8} (h : Own w base (.slice (some ⟨g, 0, none⟩) n c) l) (i : Nat) : w.frozen? ⟨g, i, none⟩ = false := by
 obtain ⟨_, _, _, _, cur, hh, _⟩ := h.blk
 simp [World.frozen?, hh]
theorem Own.set_ {w : World} {base g n c : Nat} {l : List UInt8} (h : Own w base (.slice (some ⟨g, 0, none⟩) n c) l) (k : Nat) (x : UInt8) (_hk : k < n) : Own (w.setCell ⟨g, k, none⟩ (B x)) base (.slice (some ⟨g, 0, none⟩) n c) (l.set k x) := by
 obtain ⟨e0, e1, e2, e3, cur, hh, hcl, htk⟩ := h.blk
 have hb : Blk w g 5 cur.toArray := hh
 have hb2 := hb.set_ k (B x)
 rw [List.setIfInBounds_toArray] at hb2
 have hl : (l.set k x).length = n := by rw [List.length_set]; exact e0.symm
 have := Own.of_cells (l := l.set k x) hb2 e3 (by rw [List.length_set]; exact hcl) e2 (by omega) (by rw [hl, List.take_set, htk, List.map_set])
 rwa [hl] at this
theorem Own.cell {w : World} {base g n c : Nat} {l : List UInt8} (h : Own w base (.slice (some ⟨g, 0, none⟩) n c) l) (k : Nat) (x : UInt8) (hx : l[k]? = some x) : w.cell? ⟨g, k, none⟩ = some (B x) := by
 obtain ⟨h1, h2, h3, ⟨h4, _⟩ | ⟨b, off, h4, h5⟩⟩ := h.rd
 ·cases h4
 ·cases h4
  have := h5.2 k x hx
  rwa [Nat.zero_add] at this
theorem toStr {w : World} {b off : Nat} {l : List UInt8} (h : At w b off l) (c : Nat) : (convert 32 9 (.slice (some ⟨b, off, none⟩) l.length c)).run Tryz.prog w = .ok (.string ⟨l.toArray⟩) w := by
 have h1 := run_convert_bytes_arg (P := Tryz.prog) w 32 5 Tryz.underlying32 Tryz.underlying5 b off l.length c (l.map fun x => (x.toNat : Int)) (by simp)
  (fun i hi => by have := h.cell hi; simpa [B, List.getD, hi] using this) 9 Tryz.underlying9
 rw [h1]
 congr 2
 unfold strOfNums
 congr 1
 rw [List.map_map]
 have : (fun n : Int => UInt8.ofNat n.toNat) ∘ (fun x : UInt8 => (x.toNat : Int)) = id := by funext x; simp
 rw [this, List.map_id]
theorem toStr_nil (w : World) (n c : Nat) : (convert 32 9 (.slice none n c)).run Tryz.prog w = .ok (.string ⟨([] : List UInt8).toArray⟩) w :=
 run_convert_bytes_nil (P := Tryz.prog) w 32 5 Tryz.underlying32 Tryz.underlying5 n c 9 Tryz.underlying9
theorem Rd.str {w : World} {A : Option Addr} {m c : Nat} {l : List UInt8} (h : Rd w A m c l) : (convert 32 9 (.slice A m c)).run Tryz.prog w = .ok (.string ⟨l.toArray⟩) w := by
 obtain ⟨rfl, h2, h3, ⟨rfl, hc⟩ | ⟨b, off, rfl, hat⟩⟩ := h
 ·have hz : l.length = 0 := by omega
  obtain rfl := List.length_eq_zero_iff.1 hz
  exact toStr_nil w _ _
 ·exact toStr hat c
section
variable {P : Program} {ops : Array Oper} {Q : Exit → Act → World → Prop} {md : Region.Mode} {S : World → Prop}
theorem takeL {i : Nat} {oi : Oper} {v : Value} {fuel : Nat} {listed : Array Bool} {a : Act} {w : World} (hi : ops.toList[i]? = some oi)
  (hs : Region.noSelect ops = true) (hf : Region.free md ops listed i = true) (hr : (Region.ready md ops listed).contains i = true)
  (hQ : ∀ c a w, Q (.panic c) (a.put oi.dst v) w → Q (.panic c) a w) (hy : YieldsIf P ops S oi v a) (hS : S w)
  (h : wpAnyH P md ops Q S fuel (listed.setIfInBounds i true) (a.put oi.dst v) w) : wpAnyH P md ops Q S (fuel + 1) listed a w :=
 wpAnyH_take (by simpa using hi) hs hf hr hQ hy hS h
theorem consL {fuel : Nat} {listed : Array Bool} {a : Act} {w : World} {i : Nat} {o : Oper} {rs : List Nat} (ho : ops.toList[i]? = some o)
  (h : ∀ K' : Act → World → Prop, Shut (∀ a w, S w → (S w → wpAnyH P md ops Q S fuel (listed.setIfInBounds i true) a w) → K' a w) → if Region.wanted o (yielded ops a.tmps) = true then Oper.wp P o a w K' Q else K' (a.put o.dst undef) w)
  (hs : AllReadyH P md ops Q S fuel listed a w rs) : AllReadyH P md ops Q S fuel listed a w (i :: rs) := AllReadyH.cons (by simpa using ho) h hs
theorem tkL (i : Nat) {oi : Oper} {v : Value} {fuel : Nat} {listed : Array Bool} {a : Act} {w : World} (hS : S w) (hy : ∀ w, S w → (execOp a.eval oi).run P w = .ok (.value v) w)
  (h : wpAnyH P md ops Q S fuel (listed.setIfInBounds i true) (a.put oi.dst v) w) (hi : ops.toList[i]? = some oi := by rfl) (hw : Region.wanted oi (yielded ops a.tmps) = true := by rfl)
  (hs : Region.noSelect ops = true := by kernel_rfl) (hf : Region.free md ops listed i = true := by kernel_rfl) (hr : (Region.ready md ops listed).contains i = true := by kernel_rfl)
  (hQ : ∀ c a w, Q (.panic c) (a.put oi.dst v) w → Q (.panic c) a w := by exact fun _ _ _ h => h) : wpAnyH P md ops Q S (fuel + 1) listed a w :=
 takeL hi hs hf hr hQ (Or.inl ⟨hw, hy⟩) hS h
theorem rdL (i : Nat) {fuel : Nat} {listed : Array Bool} {a : Act} {w : World} {o : Oper}
  (h : ∀ K' : Act → World → Prop, Shut (∀ a w, S w → (S w → wpAnyH P md ops Q S fuel (listed.setIfInBounds i true) a w) → K' a w) → if Region.wanted o (yielded ops a.tmps) = true then Oper.wp P o a w K' Q else K' (a.put o.dst undef) w)
  (ho : ops.toList[i]? = some o := by rfl) (hr : Region.ready md ops listed = [i] := by kernel_rfl) : wpAnyH P md ops Q S (fuel + 1) listed a w :=
 wpAnyH_ready hr (by simp) (consL ho h AllReadyH.nil)
end
theorem sA {α : Type} (l : List α) (i : Nat) (a : α) : (l.toArray).setIfInBounds i a = (l.set i a).toArray := List.setIfInBounds_toArray ..
theorem sB {α : Type} {x : α} {xs : List α} {y : α} : (x :: xs).set 0 y = y :: xs := List.set_cons_zero
theorem sC {α : Type} {x : α} {xs : List α} {n : Nat} {y : α} : (x :: xs).set (n + 1) y = x :: xs.set n y := List.set_cons_succ
section
variable {P : Program} {ops : Array Oper} {Q : Exit → Act → World → Prop} {md : Region.Mode} {S : World → Prop}
theorem tkS (i : Nat) {oi : Oper} {v : Value} {fuel : Nat} {listed : Array Bool} {a : Act} {w : World} (hS : S w) {b : Act} (h : wpAnyH P md ops Q S fuel (listed.setIfInBounds i true) b w) (hi : ops.toList[i]? = some oi := by rfl)
 (hy : ∀ w, S w → (execOp a.eval oi).run P w = .ok (.value v) w := by (intro wq hSw; clear hSw; go_simp; try with_reducible rfl)) (hb : a.put oi.dst v = b := by (try simp only [Act.put, sA, sB, sC]); rfl) (hw : Region.wanted oi (yielded ops a.tmps) = true := by rfl) (hs : Region.noSelect ops = true := by kernel_rfl)
 (hf : Region.free md ops listed i = true := by kernel_rfl) (hr : (Region.ready md ops listed).contains i = true := by kernel_rfl) (hQ : ∀ c a w, Q (.panic c) (a.put oi.dst v) w → Q (.panic c) a w := by exact fun _ _ _ h => h) : wpAnyH P md ops Q S (fuel + 1) listed a w := tkL i hS hy (hb ▸ h) hi hw hs hf hr hQ
end
def Old (w0 w : World) : Prop := Below w0.heap.size w0 w
theorem Old.refl (w : World) : Old w w := Below.refl _ w
theorem Old.drew {w0 w : World} (h : Old w0 w) : Old w0 w.drew := Below.drew h
theorem Old.alloc {w0 w : World} (h : Old w0 w) (o : Obj) : Old w0 (w.alloc o) := Below.alloc h (Below.size h) o
theorem Old.trans {w0 w1 w : World} (h : Old w0 w1) (h' : Old w1 w) : Old w0 w := Below.trans h (Below.mono h' (Below.size h))
theorem Old.drewN {w0 w : World} (h : Old w0 w) (n : Nat) : Old w0 (w.drewN n) := ⟨h.os, h.tape, h.output, h.size, h.block⟩
theorem region_old {P : Program} {ops : Array Oper} {Q : Exit → Act → World → Prop} {id : Nat} {a : Act} {w : World} (hm : P.follows .mixedOrders = true)
  (h : ∀ wd, Old w wd → w.heap.size = wd.heap.size → wpAnyH P .any ops (NoPanic Q) (Old w) ops.size (Array.replicate ops.size false) a wd) : (Code.region id ops true).wp P Q a w :=
 wp_region_noPanic (wp_region_held_drew hm (Old.drew (Old.refl w)) (fun hS => h _ hS rfl))
def Tow (base : Nat) (v : Value) (l : List UInt8) (w0 w : World) : Prop := Turn v.ownBlock.toList w0 w ∧ Own w base v l
section
variable {base : Nat} {v : Value} {l : List UInt8} {w0 w1 w : World}
theorem Tow.refl (h : Own w base v l) : Tow base v l w w := ⟨Turn.refl _ w, h⟩
theorem Tow.drew (h : Tow base v l w0 w) : Tow base v l w0 w.drew := ⟨Turn.drew h.1, h.2⟩
theorem Tow.drewN (h : Tow base v l w0 w) (n : Nat) : Tow base v l w0 (w.drewN n) := ⟨Turn.drewN h.1 n, h.2⟩
theorem Tow.alloc (h : Tow base v l w0 w) (o : Obj) : Tow base v l w0 (w.alloc o) := ⟨Turn.alloc h.1 o, h.2.alloc_ o⟩
theorem Tow.trans (h : Tow base v l w0 w1) (h' : Tow base v l w1 w) : Tow base v l w0 w := ⟨Turn.trans h.1 h'.1 (fun _ hx => .inl hx), h'.2⟩
theorem Tow.old (h : Tow base v l w0 w1) (h' : Old w1 w) : Tow base v l w0 w := ⟨Turn.trans h.1 (Turn.of_below [] h') (fun _ hx => by cases hx), h.2.below h'⟩
theorem Tow.app (h : Tow base v l w0 w1) (hg : w1.grownBy w v.ownBlock) (ho : Own w base v l) : Tow base v l w0 w := ⟨h.1.grown hg (fun k hk => .inl (by rw [hk]; simp)), ho⟩
theorem Tow.notin (h : Own w0 base v l) {b : Nat} (hb : w0.heap.size ≤ b) : b ∉ v.ownBlock.toList := fun hm => by
 have := (h.lt (show _ = some b by simpa using hm)).2; omega
end
def U16 (x : UInt16) : Value := .int .u16 (x.toNat : Int)
theorem wrap_u16 (n : Int) : IntKind.u16.wrap n = n % 65536 := by simp [IntKind.wrap, IntKind.bits, IntKind.signed]
theorem U16_eq {x : UInt16} {n : Int} (h : (x.toNat : Int) = n) : U16 x = .int .u16 n := by unfold U16; rw [h]
section
variable (t : TypeId)
theorem or_U16 (x y : UInt16) : binOp .or t (U16 x) (U16 y) = pure (U16 (x ||| y)) := by
 show (pure (.int .u16 (IntKind.u16.wrap (BitVec.toNat (BitVec.ofInt 16 (x.toNat : Int) ||| BitVec.ofInt 16 (y.toNat : Int))))) : Sem Value) = _
 rw [wrap_u16, ← U16_eq]
 simp only [BitVec.ofInt_natCast, UInt16.toNat_or, BitVec.toNat_or, BitVec.toNat_ofNat]
 have := x.toNat_lt; have := y.toNat_lt
 rw [Nat.mod_eq_of_lt (by omega), Nat.mod_eq_of_lt (by omega)]
 have : x.toNat ||| y.toNat < 2 ^ 16 := Nat.or_lt_two_pow (by omega) (by omega)
 omega
theorem shr_U16 (x : UInt16) (k : IntKind) (n : Nat) (h : n < 16) : binOp .shr t (U16 x) (.int k n) = pure (U16 (x >>> UInt16.ofNat n)) := by
 show Op.shift .shr .u16 (x.toNat : Int) k (n : Int) = _
 unfold Op.shift
 rw [if_neg (by omega)]
 simp only [Int.toNat_natCast, IntKind.bits, Nat.min_eq_left (Nat.le_of_lt h)]
 rw [← U16_eq]
 rw [UInt16.toNat_shiftRight, UInt16.toNat_ofNat', Nat.mod_eq_of_lt (a := n) (by omega), Nat.mod_eq_of_lt h, Nat.shiftRight_eq_div_pow]
 rw [Int.fdiv_eq_ediv_of_nonneg _ (by exact_mod_cast Nat.zero_le _)]
 simp
theorem shl_U16 (x : UInt16) (k : IntKind) (n : Nat) (h : n < 16) : binOp .shl t (U16 x) (.int k n) = pure (U16 (x <<< UInt16.ofNat n)) := by
 show Op.shift .shl .u16 (x.toNat : Int) k (n : Int) = _
 unfold Op.shift
 rw [if_neg (by omega)]
 simp only [Int.toNat_natCast, IntKind.bits, Nat.min_eq_left (Nat.le_of_lt h)]
 rw [wrap_u16, ← U16_eq]
 rw [UInt16.toNat_shiftLeft, UInt16.toNat_ofNat', Nat.mod_eq_of_lt (a := n) (by omega), Nat.mod_eq_of_lt h, Nat.shiftLeft_eq]
 simp
theorem shrI_U16 (x : UInt16) (k : IntKind) (n : Int) (h0 : 0 ≤ n) (h : n < 16) : binOp .shr t (U16 x) (.int k n) = pure (U16 (x >>> UInt16.ofNat n.toNat)) := by
 obtain ⟨m, rfl⟩ := Int.eq_ofNat_of_zero_le h0
 exact shr_U16 t x k m (by omega)
theorem shlI_U16 (x : UInt16) (k : IntKind) (n : Int) (h0 : 0 ≤ n) (h : n < 16) : binOp .shl t (U16 x) (.int k n) = pure (U16 (x <<< UInt16.ofNat n.toNat)) := by
 obtain ⟨m, rfl⟩ := Int.eq_ofNat_of_zero_le h0
 exact shl_U16 t x k m (by omega)
end
attribute [go_sem] or_U16 shrI_U16 shlI_U16
section
variable {P : Program} {s d : TypeId} {ds : TypeDesc} (w : World)
theorem conv_B_U16 (hs : P.underlying s = some ds) (hd : P.underlying d = some (.int .u16)) (x : UInt8) : (convert s d (B x)).run P w = .ok (U16 x.toUInt16) w := by
 unfold B
 rw [conv_int w .u16 hs hd, wrap_u16, ← U16_eq (x := x.toUInt16)]
 have := x.toNat_lt; rw [UInt8.toNat_toUInt16]; omega
theorem conv_U16_B (hs : P.underlying s = some ds) (hd : P.underlying d = some (.int .u8)) (x : UInt16) : (convert s d (U16 x)).run P w = .ok (B x.toUInt8) w := by
 unfold U16
 rw [conv_int w .u8 hs hd, wrap_u8, ← B_eq (x := x.toUInt8)]
 rw [UInt16.toNat_toUInt8]; omega
theorem wrap_i64 (n : Int) (h0 : -9223372036854775808 ≤ n) (h1 : n ≤ 9223372036854775807) : IntKind.i64.wrap n = n := by
 simp only [IntKind.wrap, IntKind.bits, IntKind.signed]
 simp
 split <;> omega
theorem conv_U16_int (hs : P.underlying s = some ds) (hd : P.underlying d = some (.int .i64)) (x : UInt16) : (convert s d (U16 x)).run P w = .ok (.int .i64 (x.toNat : Int)) w := by
 unfold U16
 have := x.toNat_lt
 rw [conv_int w .i64 hs hd, wrap_i64 _ (by omega) (by omega)]
theorem conv_U32_int (hs : P.underlying s = some ds) (hd : P.underlying d = some (.int .i64)) (x : UInt32) : (convert s d (U32 x)).run P w = .ok (.int .i64 (x.toNat : Int)) w := by
 unfold U32
 have := x.toNat_lt
 rw [conv_int w .i64 hs hd, wrap_i64 _ (by omega) (by omega)]
theorem int_U16 (n : Nat) (h : n < 65536) : (Value.int .u16 (n : Int)) = U16 (UInt16.ofNat n) := (U16_eq (by rw [UInt16.toNat_ofNat']; omega)).symm
theorem int_U32 (n : Nat) (h : n < 4294967296) : (Value.int .u32 (n : Int)) = U32 (UInt32.ofNat n) := (U32_eq (by rw [UInt32.toNat_ofNat']; omega)).symm
end
@[go_sem] theorem Tryz.conv_8_16 (w : World) (x : UInt8) : (convert 5 117 (B x)).run Tryz.prog w = .ok (U16 x.toUInt16) w := conv_B_U16 w Tryz.underlying5 Tryz.underlying117 x
@[go_sem] theorem Tryz.conv_16_8 (w : World) (x : UInt16) : (convert 117 5 (U16 x)).run Tryz.prog w = .ok (B x.toUInt8) w := conv_U16_B w Tryz.underlying117 Tryz.underlying5 x
@[go_sem] theorem Tryz.conv_16_int (w : World) (x : UInt16) : (convert 117 3 (U16 x)).run Tryz.prog w = .ok (.int .i64 (x.toNat : Int)) w := conv_U16_int w Tryz.underlying117 Tryz.underlying3 x
@[go_sem] theorem Tryz.conv_32_int (w : World) (x : UInt32) : (convert 115 3 (U32 x)).run Tryz.prog w = .ok (.int .i64 (x.toNat : Int)) w := conv_U32_int w Tryz.underlying115 Tryz.underlying3 x
def bytes16 (x : UInt16) : List UInt8 := [(x >>> 8).toUInt8, x.toUInt8]
theorem append16_any (v : Value) (x : UInt16) (l : List UInt8) (w : World) (base : Nat) (h : Own w base v l) (hb : base ≤ w.heap.size) (hl : l.length ≤ 140737488351000) :
  Calls Tryz.prog 68 #[v, U16 x] w fun e w' => ∃ v', e = .returned v' ∧ Own w' base v' (l ++ bytes16 x) ∧ Turn v.ownBlock.toList w w' ∧ v' ≠ .slice none 0 0 := by
 have ho2 : Own (w.alloc (.cells #[B (x >>> 8).toUInt8, B x.toUInt8] 5)) base v l := h.below ((Below.refl _ _).alloc (Nat.le_refl _) _)
 have hr : Rd (w.alloc (.cells #[B (x >>> 8).toUInt8, B x.toUInt8] 5)) (some ⟨w.heap.size, 0, none⟩) 2 2 (bytes16 x) := Rd.of_blk (l := bytes16 x) (heap_alloc_new w _) (by simp [bytes16, maxLen])
 go_enter Tryz.func68, Tryz.ntmps68
 go_wp2_with (at_builtin; refine wp_app rfl _ _ rfl base v l rfl ho2 (some ⟨w.heap.size, 0, none⟩) 2 2 (bytes16 x) rfl hr ?c3 ?c5 ?_)
 case c3 => simp [bytes16]; omega
 case c5 => simp; omega
 intro v' w' ho hg hn hb
 have HB := Lib.hid (And.intro hn hb)
 clear hn hb hr ho2
 go_wp2
 go_ret
 refine ⟨_, rfl, ho, (((Turn.refl _ w).alloc _).app hg (.inl rfl)), ?_⟩
 intro e
 have := (HB.out.1.1 e).2
 simp [bytes16] at this
def word16 (l : List UInt8) (k : Nat) : UInt16 := (l.getD k 0).toUInt16 <<< 8 ||| (l.getD (k + 1) 0).toUInt16
end Go.Proofs.YtgjnmpjimhbfgaaGreatDoor
namespace Go.Proofs.YtgjnmpjimhbfgaaGreatDoor
set_option maxRecDepth 100000
open Go.RowKit
theorem addr_add0 (A : Option Addr) (h : ∀ ad, A = some ad → ad.spot = none) : A.map (·.add 0) = A := by
 cases A with
 | none => rfl
 | some ad =>
  obtain ⟨b, off, spot⟩ := ad
  have := h _ rfl
  simp only at this
  subst this
  rfl
theorem Rd.spot {w : World} {A : Option Addr} {m c : Nat} {l : List UInt8} (h : Rd w A m c l) : ∀ ad, A = some ad → ad.spot = none := by
 obtain ⟨_, _, _, ⟨rfl, _⟩ | ⟨b, off, rfl, _⟩⟩ := h
 ·intro ad h; cases h
 ·intro ad h; cases h; rfl
theorem sz8 : (Tryz.prog.info? 5).map (·.size) = some 1 := by kernel_rfl
theorem slice_to (A : Option Addr) (m c k : Nat) (hA : ∀ ad, A = some ad → ad.spot = none) (hk : k ≤ c) (w : World) : (Instr.slice 32 (.slice A m c) none (some (.int .i64 (k : Int))) none).run Tryz.prog w = .ok (.slice A k c) w := by
 obtain ⟨i, hi, hz⟩ : ∃ i, Tryz.prog.info? 5 = some i ∧ i.size = 1 := by
  cases h : Tryz.prog.info? 5 with
  | none => have := sz8; rw [h] at this; cases this
  | some i => exact ⟨i, rfl, by have := sz8; rw [h] at this; simpa using this⟩
 unfold Instr.slice
 simp [Sem.run_bind, run_underlying Tryz.underlying32 w, Instr.sliceBounds, Instr.sliceBound, asIntOf, sizeOf, typeInfo, hi]
 rw [if_pos hk, addr_add0 A hA]
 simp
theorem slice_from (A : Option Addr) (m c k : Nat) (hk : k ≤ m) (w : World) : (Instr.slice 32 (.slice A m c) (some (.int .i64 (k : Int))) none none).run Tryz.prog w = .ok (.slice (if c = k then A else A.map (·.add k)) (m - k) (c - k)) w := by
 obtain ⟨i, hi, hz⟩ : ∃ i, Tryz.prog.info? 5 = some i ∧ i.size = 1 := by
  cases h : Tryz.prog.info? 5 with
  | none => have := sz8; rw [h] at this; cases this
  | some i => exact ⟨i, rfl, by have := sz8; rw [h] at this; simpa using this⟩
 have h1 : (0 : Int) ≤ k ∧ (k : Int) ≤ m := by omega
 unfold Instr.slice
 simp [Sem.run_bind, run_underlying Tryz.underlying32 w, Instr.sliceBounds, Instr.sliceBound, asIntOf, h1, sizeOf, typeInfo, hi, hz]
 intro h; omega
theorem slice_both (A : Option Addr) (m c k j : Nat) (hk : k ≤ j) (hj : j ≤ c) (w : World) : (Instr.slice 32 (.slice A m c) (some (.int .i64 (k : Int))) (some (.int .i64 (j : Int))) none).run Tryz.prog w = .ok (.slice (if c = k then A else A.map (·.add k)) (j - k) (c - k)) w := by
 obtain ⟨i, hi, hz⟩ : ∃ i, Tryz.prog.info? 5 = some i ∧ i.size = 1 := by
  cases h : Tryz.prog.info? 5 with
  | none => have := sz8; rw [h] at this; cases this
  | some i => exact ⟨i, rfl, by have := sz8; rw [h] at this; simpa using this⟩
 have h1 : (0 : Int) ≤ k ∧ (k : Int) ≤ j := by omega
 have h2 : (0 : Int) ≤ j ∧ (j : Int) ≤ c := by omega
 unfold Instr.slice
 simp [Sem.run_bind, run_underlying Tryz.underlying32 w, Instr.sliceBounds, Instr.sliceBound, asIntOf, h1, h2, sizeOf, typeInfo, hi, hz]
 rw [if_pos hj, if_pos hk]
theorem Rd.cut_ex {w : World} {A : Option Addr} {m c k : Nat} {l : List UInt8} (h : Rd w A m c l) (hk : k ≤ m) :
  ∃ A' n' c', n' = m - k ∧ (∀ w, (Instr.slice 32 (.slice A m c) (some (.int .i64 (k : Int))) none none).run Tryz.prog w = .ok (.slice A' n' c') w) ∧ Rd w A' n' c' (l.drop k) :=
 ⟨_, _, _, rfl, slice_from A m c k hk, h.cut hk⟩
theorem Rd.cut_ex2 {w : World} {A : Option Addr} {m c k : Nat} {l : List UInt8} (h : Rd w A m c l) (hk : k ≤ m) :
  ∃ A' n' c', n' = m - k ∧ (∀ w, (Instr.slice 32 (.slice A m c) (some (.int .i64 (k : Int))) none none).run Tryz.prog w = .ok (.slice A' n' c') w) ∧ Rd w A' n' c' (l.drop k) ∧ (∀ ad', A' = some ad' → ∃ ad, A = some ad ∧ ad'.block = ad.block) := by
 refine ⟨_, _, _, rfl, slice_from A m c k hk, h.cut hk, ?_⟩
 intro ad' had
 split at had
 ·exact ⟨ad', had, rfl⟩
 ·cases A with
  | none => cases had
  | some ad =>
   simp only [Option.map_some, Option.some.injEq] at had
   refine ⟨ad, rfl, ?_⟩
   rw [← had]
   unfold Addr.add; split <;> rfl
theorem region_turnS {P : Program} {ops : Array Oper} {Q : Exit → Act → World → Prop} {id : Nat} {a : Act} {w : World} (T : List Nat) (hm : P.follows .mixedOrders = true)
  (h : ∀ wd, Old w wd → Turn T w wd → w.heap.size = wd.heap.size → wpAnyH P .any ops (NoPanic Q) (Turn T w) ops.size (Array.replicate ops.size false) a wd) : (Code.region id ops true).wp P Q a w :=
 wp_region_noPanic (wp_region_held_drew hm (Turn.drew (Turn.refl T w)) (fun hS => h _ (Old.drew (Old.refl w)) hS rfl))
theorem step_copyR {ops : Array Oper} {o : Oper} {a : Act} {w : World} {K : Act → World → Prop} {Q : Exit → Act → World → Prop} {E : Prop} (hgd : o.guard = none) (d s : Operand)
  (ho : o.op = .call { callee := .builtin .copy, args := #[d, s], argTypes := #[32, 32] })
  (base g n0 c0 off dl dc : Nat) (l : List UInt8) (hown : Own w base (.slice (some ⟨g, 0, none⟩) n0 c0) l) (hd : a.eval d = .slice (some ⟨g, off, none⟩) dl dc) (hoff : off + dl ≤ l.length)
  (A : Option Addr) (m c : Nat) (l2 : List UInt8) (hs : a.eval s = .slice A m c) (hrd : Rd w A m c l2)
  (h : ∀ w', Own w' base (.slice (some ⟨g, 0, none⟩) n0 c0) (splice l off (l2.take dl)) → w.grownBy w' (some g) → K (a.put o.dst (goInt ((min m dl : Nat) : Int))) w') :
  if Region.wanted o (yielded ops a.tmps) = true then Oper.wp Tryz.prog o a w K Q else E := by
 rw [if_pos (by simp [Region.wanted, hgd])]
 exact op_copy d s ho base g n0 c0 off dl dc l hown hd hoff A m c l2 hs hrd h
theorem wp_copyR {ops : Array Oper} {rest : List Oper} {o : Oper} {a : Act} {w : World} {Q : Exit → Act → World → Prop} (hgd : o.guard = none) (d s : Operand)
  (ho : o.op = .call { callee := .builtin .copy, args := #[d, s], argTypes := #[32, 32] })
  (base g n0 c0 off dl dc : Nat) (l : List UInt8) (hown : Own w base (.slice (some ⟨g, 0, none⟩) n0 c0) l) (hd : a.eval d = .slice (some ⟨g, off, none⟩) dl dc) (hoff : off + dl ≤ l.length)
  (A : Option Addr) (m c : Nat) (l2 : List UInt8) (hs : a.eval s = .slice A m c) (hrd : Rd w A m c l2)
  (h : ∀ w', Own w' base (.slice (some ⟨g, 0, none⟩) n0 c0) (splice l off (l2.take dl)) → w.grownBy w' (some g) → wpList Tryz.prog ops Q rest (a.put o.dst (goInt ((min m dl : Nat) : Int))) w') :
  wpList Tryz.prog ops Q (o :: rest) a w :=
 wpList_plain hgd fun _ hK => op_copy d s ho base g n0 c0 off dl dc l hown hd hoff A m c l2 hs hrd fun w' h1 h2 => hK _ _ (h w' h1 h2)
def tw (b : UInt8) : UInt8 := (b <<< 1) ^^^ ((b >>> 7) * 27)
theorem twice_any (b : UInt8) (w : World) : Calls Tryz.prog 107 #[B b] w fun e w' => e = .returned (B (tw b)) ∧ w = w' := by
 go_enter Tryz.func107, Tryz.ntmps107
 go_wp2
 go_ret
 exact ⟨rfl, rfl⟩
def rot (b : UInt8) (n : Nat) : UInt8 := (b <<< UInt8.ofNat n) ||| (b >>> UInt8.ofNat (8 - n))
theorem turn_any (b : UInt8) (n : Nat) (hn : n = 1 ∨ n = 2 ∨ n = 3 ∨ n = 4) (w : World) : Calls Tryz.prog 136 #[B b, .int .u64 n] w fun e w' => e = .returned (B (rot b n)) ∧ w = w' := by
 rcases hn with rfl | rfl | rfl | rfl
 all_goals
  go_enter Tryz.func136, Tryz.ntmps136
  go_wp2
  go_ret
  exact ⟨rfl, rfl⟩
def gmF : Nat → UInt8 → UInt8 → UInt8 → UInt8
 | 0, _, _, o => o
 | n + 1, a, f, o => gmF n (tw a) (f >>> 1) (if f.toNat % 2 = 1 then o ^^^ a else o)
def gm (a f : UInt8) : UInt8 := gmF 8 a f 0
theorem half_lt (f : UInt8) (k : Nat) (h : f.toNat < 2 ^ (k + 1)) : (f >>> 1).toNat < 2 ^ k := by
 rw [UInt8.toNat_shiftRight]
 simp [Nat.shiftRight_eq_div_pow]
 rw [Nat.pow_succ] at h
 omega
theorem gmF_zero (k : Nat) : ∀ (a o : UInt8), gmF k a 0 o = o := by
 induction k with
 | zero => intro a o; rfl
 | succ k ih => intro a o; unfold gmF; simp; exact ih _ _
theorem times_any (b f : UInt8) (w : World) : Calls Tryz.prog 161 #[B b, B f] w fun e w' => e = .returned (B (gm b f)) ∧ w = w' := by
 go_enter Tryz.func161, Tryz.ntmps161
 go_wp2
 go_loopw [0, 1, 5] (fun bv fv ov wr => wr = w ∧ ∃ (k : Nat) (x y o : UInt8), k ≤ 8 ∧ y.toNat < 2 ^ k ∧ bv = B x ∧ fv = B y ∧ ov = B o ∧ gmF k x y o = gm b f) (fun _ fv _ _ => (intOf fv).toNat)
 case atStart => exact ⟨rfl, 8, b, f, 0, by omega, f.toNat_lt, rfl, rfl, rfl, rfl⟩
 case round =>
  obtain ⟨rfl, k, x, y, o, hk, hy, rfl, rfl, rfl, hg⟩ := hrel
  by_cases h0 : y = 0
  ·subst h0
   have hz : o = gm b f := by rw [← hg, gmF_zero]
   clear hg hy
   have hp : gtN 0 0 = false := rfl
   go_wp2
   go_ret
   exact ⟨by rw [hz]; rfl, rfl⟩
  ·have hp : gtN y 0 = true := by
    unfold gtN
    have : y.toNat ≠ 0 := fun h => h0 (by rw [← UInt8.toNat_inj]; exact h)
    simp; omega
   obtain ⟨k', rfl⟩ : ∃ k', k = k' + 1 := by
    cases k with
    | zero => exact absurd (by rw [← UInt8.toNat_inj]; simp only [Nat.pow_zero] at hy; show y.toNat = 0; omega) h0
    | succ k' => exact ⟨k', rfl⟩
   have hh := half_lt y k' hy
   unfold gmF at hg
   have hm : (y >>> 1).toNat < y.toNat := by
    have hy0 : y.toNat ≠ 0 := fun h => h0 (by rw [← UInt8.toNat_inj]; exact h)
    rw [UInt8.toNat_shiftRight]; simp [Nat.shiftRight_eq_div_pow]; omega
   clear hy h0
   by_cases h1 : y.toNat % 2 = 1
   ·rw [if_pos h1] at hg
    have hb : isN (y &&& 1) 1 = true := by unfold isN; simp; omega
    clear h1
    go_wp2_with (go_at_call 107; refine (twice_any _ _).mono ?_; rintro e wx ⟨rfl, rfl⟩)
    go_roundw
    case rel => exact ⟨trivial, k', _, _, _, by omega, hh, rfl, rfl, rfl, hg⟩
    case measure => simp only [intOf, B, Int.toNat_natCast]; exact hm
   ·rw [if_neg h1] at hg
    have hb : isN (y &&& 1) 1 = false := by unfold isN; simp; omega
    clear h1
    go_wp2_with (go_at_call 107; refine (twice_any _ _).mono ?_; rintro e wx ⟨rfl, rfl⟩)
    go_roundw
    case rel => exact ⟨trivial, k', _, _, _, by omega, hh, rfl, rfl, rfl, hg⟩
    case measure => simp only [intOf, B, Int.toNat_natCast]; exact hm
def invF : Nat → UInt8 → UInt8 → UInt8
 | 0, _, p => p
 | n + 1, a, p => invF n (gm a a) (gm p (gm a a))
def subF : Nat → UInt8 → UInt8 → UInt8
 | 0, _, s => s
 | n + 1, x, s => subF n ((x <<< 1) ||| (x >>> 7)) (s ^^^ x)
def sb (a : UInt8) : UInt8 := subF 5 (invF 7 a 1) 99
def stP (p : UInt8) : UInt8 := p ^^^ tw p
def stQ3 (q : UInt8) : UInt8 :=
 let a := q ^^^ (q <<< 1)
 let b := a ^^^ (a <<< 2)
 b ^^^ (b <<< 4)
def stQ (q : UInt8) : UInt8 := stQ3 q ^^^ ((stQ3 q >>> 7) * 9)
def val (q : UInt8) : UInt8 := q ^^^ rot q 1 ^^^ rot q 2 ^^^ rot q 3 ^^^ rot q 4 ^^^ 99
def itP : Nat → UInt8
 | 0 => 1
 | k + 1 => stP (itP k)
def itQ : Nat → UInt8
 | 0 => 1
 | k + 1 => stQ (itQ k)
def chk : Nat → UInt8 → UInt8 → Bool
 | 0, p, _ => p == 1
 | n + 1, p, q => (val (stQ q) == sb (stP p)) && (n == 0 || !(stP p == 1)) && chk n (stP p) (stQ q)
theorem chk_all : chk 255 1 1 = true := by decide +kernel
theorem chk_at (n : Nat) : ∀ (k : Nat), k + n = 255 → chk n (itP k) (itQ k) = true → ∀ j, k < j → j ≤ 255 → val (itQ j) = sb (itP j) ∧ (j < 255 → itP j ≠ 1) ∧ (j = 255 → itP j = 1) := by
 induction n with
 | zero => intro k hk _ j h1 h2; omega
 | succ n ih =>
  intro k hk hc j h1 h2
  unfold chk at hc
  simp only [Bool.and_eq_true, Bool.or_eq_true, beq_iff_eq, Bool.not_eq_true', beq_eq_false_iff_ne] at hc
  obtain ⟨⟨c1, c2⟩, c3⟩ := hc
  rcases Nat.lt_or_ge (k + 1) j with hlt | hge
  ·exact ih (k + 1) (by omega) c3 j hlt h2
  ·obtain rfl : j = k + 1 := by omega
   refine ⟨c1, fun h => ?_, fun h => ?_⟩
   ·rcases c2 with c2 | c2
    ·omega
    ·exact c2
   ·have : n = 0 := by omega
    subst this
    simp only [chk, beq_iff_eq] at c3; exact c3
theorem steps_at (j : Nat) (h1 : 1 ≤ j) (h2 : j ≤ 255) : val (itQ j) = sb (itP j) ∧ (j < 255 → itP j ≠ 1) ∧ (j = 255 → itP j = 1) := chk_at 255 0 rfl chk_all j (by omega) h2
def walkP : Nat → UInt8 → List UInt8
 | 0, _ => []
 | n + 1, p => stP p :: walkP n (stP p)
theorem walkP_mem (n : Nat) : ∀ (k : Nat) (x : UInt8), x ∈ walkP n (itP k) → ∃ j, k < j ∧ j ≤ k + n ∧ itP j = x := by
 induction n with
 | zero => intro k x h; simp [walkP] at h
 | succ n ih =>
  intro k x h
  unfold walkP at h
  rcases List.mem_cons.1 h with rfl | h
  ·exact ⟨k + 1, by omega, by omega, rfl⟩
  ·obtain ⟨j, a, b, c⟩ := ih (k + 1) x h
   exact ⟨j, by omega, by omega, c⟩
theorem walk_all : ∀ i : Fin 256, i.val ≠ 0 → (walkP 255 1).contains (UInt8.ofNat i.val) = true := by decide +kernel
theorem all_met (x : UInt8) (h : x ≠ 0) : ∃ j, 1 ≤ j ∧ j ≤ 255 ∧ itP j = x := by
 have := walk_all ⟨x.toNat, x.toNat_lt⟩ (fun e => h (by rw [← UInt8.toNat_inj]; exact e))
 simp only [UInt8.ofNat_toNat, List.contains_iff_mem] at this
 obtain ⟨j, a, b, c⟩ := walkP_mem 255 0 x this
 exact ⟨j, by omega, by omega, c⟩
theorem sb_zero : sb 0 = 99 := by decide +kernel
def siL : List UInt8 := [82, 9, 106, 213, 48, 54, 165, 56, 191, 64, 163, 158, 129, 243, 215, 251, 124, 227, 57, 130, 155, 47, 255, 135, 52, 142, 67, 68, 196, 222, 233, 203, 84, 123, 148, 50, 166, 194, 35, 61, 238, 76, 149, 11, 66, 250, 195, 78, 8, 46, 161, 102, 40, 217, 36, 178, 118, 91, 162, 73, 109, 139, 209, 37, 114, 248, 246, 100, 134, 104, 152, 22, 212, 164, 92, 204, 93, 101, 182, 146, 108, 112, 72, 80, 253, 237, 185, 218, 94, 21, 70, 87, 167, 141, 157, 132, 144, 216, 171, 0, 140, 188, 211, 10, 247, 228, 88, 5, 184, 179, 69, 6, 208, 44, 30, 143, 202, 63, 15, 2, 193, 175, 189, 3, 1, 19, 138, 107, 58, 145, 17, 65, 79, 103, 220, 234, 151, 242, 207, 206, 240, 180, 230, 115, 150, 172, 116, 34, 231, 173, 53, 133, 226, 249, 55, 232, 28, 117, 223, 110, 71, 241, 26, 113, 29, 41, 197, 137, 111, 183, 98, 14, 170, 24, 190, 27, 252, 86, 62, 75, 198, 210, 121, 32, 154, 219, 192, 254, 120, 205, 90, 244, 31, 221, 168, 51, 136, 7, 199, 49, 177, 18, 16, 89, 39, 128, 236, 95, 96, 81, 127, 169, 25, 181, 74, 13, 45, 229, 122, 159, 147, 201, 156, 239, 160, 224, 59, 77, 174, 42, 245, 176, 200, 235, 187, 60, 131, 83, 153, 97, 23, 43, 4, 126, 186, 119, 214, 38, 225, 105, 20, 99, 85, 33, 12, 125]
def si (x : UInt8) : UInt8 := siL.getD x.toNat 0
theorem si_all : ∀ i : Fin 256, si (sb (UInt8.ofNat i.val)) = UInt8.ofNat i.val := by decide +kernel
theorem si_sb (x : UInt8) : si (sb x) = x := by revert x; exact all8 si_all
theorem sb_inj (x y : UInt8) (h : sb x = sb y) : x = y := by rw [← si_sb x, h, si_sb]
theorem sb_si_all : ∀ i : Fin 256, sb (si (UInt8.ofNat i.val)) = UInt8.ofNat i.val := by decide +kernel
theorem sb_si (x : UInt8) : sb (si x) = x := by revert x; exact all8 sb_si_all
def mz (p : UInt8) : Nat := (1 :: walkP 254 1).idxOf p
def chkM : Nat → Nat → UInt8 → Bool
 | 0, _, _ => true
 | n + 1, k, p => (mz p == k) && chkM n (k + 1) (stP p)
theorem chkM_all : chkM 255 0 1 = true := by decide +kernel
theorem chkM_at (n : Nat) : ∀ (k : Nat), chkM n k (itP k) = true → ∀ j, k ≤ j → j < k + n → mz (itP j) = j := by
 induction n with
 | zero => intro k _ j h1 h2; omega
 | succ n ih =>
  intro k hc j h1 h2
  unfold chkM at hc
  simp only [Bool.and_eq_true, beq_iff_eq] at hc
  rcases Nat.lt_or_ge k j with hlt | hge
  ·exact ih (k + 1) hc.2 j (by omega) (by omega)
  ·obtain rfl : j = k := by omega
   exact hc.1
theorem mz_at (j : Nat) (h : j < 255) : mz (itP j) = j := chkM_at 255 0 chkM_all j (by omega) (by omega)
def cCells (kv : Value) (bx iv : List UInt8) : Array Value := (kv :: (bx.map B ++ iv.map B)).toArray
def CAt (W : World) (c : Nat) (kv : Value) (bx iv : List UInt8) : Prop := bx.length = 256 ∧ iv.length = 256 ∧ Blk W c 151 (cCells kv bx iv)
theorem cCells_box (kv : Value) (bx iv : List UInt8) (i : Nat) (x : UInt8) (h : i < bx.length) : (cCells kv bx iv).setIfInBounds (1 + i) (B x) = cCells kv (bx.set i x) iv := by
 unfold cCells
 rw [List.setIfInBounds_toArray, Nat.add_comm, List.set_cons_succ, List.set_append_left _ _ (by simpa using h), List.map_set]
theorem cCells_inv (kv : Value) (bx iv : List UInt8) (i : Nat) (x : UInt8) (hb : bx.length = 256) : (cCells kv bx iv).setIfInBounds (257 + i) (B x) = cCells kv bx (iv.set i x) := by
 unfold cCells
 rw [List.setIfInBounds_toArray, show 257 + i = (256 + i) + 1 by omega, List.set_cons_succ, List.set_append_right _ _ (by simp; omega), List.map_set]
 simp [hb]
theorem CAt.box {W : World} {c : Nat} {kv : Value} {bx iv : List UInt8} (h : CAt W c kv bx iv) (i : Nat) (x : UInt8) (hi : i < 256) : CAt (W.setCell ⟨c, 1 + i, none⟩ (B x)) c kv (bx.set i x) iv :=
 ⟨by simp [h.1], h.2.1, by rw [← cCells_box _ _ _ _ _ (by rw [h.1]; exact hi)]; exact h.2.2.set_ _ _⟩
theorem CAt.inv {W : World} {c : Nat} {kv : Value} {bx iv : List UInt8} (h : CAt W c kv bx iv) (i : Nat) (x : UInt8) : CAt (W.setCell ⟨c, 257 + i, none⟩ (B x)) c kv bx (iv.set i x) :=
 ⟨h.1, by simp [h.2.1], by rw [← cCells_inv _ _ _ _ _ h.1]; exact h.2.2.set_ _ _⟩
theorem CAt.boxCell {W : World} {c : Nat} {kv : Value} {bx iv : List UInt8} (h : CAt W c kv bx iv) (i : Nat) (x : UInt8) (hx : bx[i]? = some x) : W.cell? ⟨c, 1 + i, none⟩ = some (B x) := by
 have hi := (List.getElem?_eq_some_iff.1 hx).1
 rw [h.2.2.cell]
 unfold cCells
 rw [List.getElem?_toArray, Nat.add_comm, List.getElem?_cons_succ, List.getElem?_append_left (by simpa using hi), List.getElem?_map, hx]
 rfl
theorem CAt.invCell {W : World} {c : Nat} {kv : Value} {bx iv : List UInt8} (h : CAt W c kv bx iv) (i : Nat) (x : UInt8) (hx : iv[i]? = some x) : W.cell? ⟨c, 257 + i, none⟩ = some (B x) := by
 rw [h.2.2.cell]
 unfold cCells
 rw [List.getElem?_toArray, show 257 + i = (256 + i) + 1 by omega, List.getElem?_cons_succ, List.getElem?_append_right (by simp [h.1]), List.getElem?_map]
 simp [h.1, hx]
theorem region_turn {P : Program} {ops : Array Oper} {Q : Exit → Act → World → Prop} {id : Nat} {a : Act} {w : World} (S : List Nat) (hm : P.follows .mixedOrders = true)
  (h : ∀ wd, Old w wd → Turn S w wd → w.heap.size = wd.heap.size → wpAnyH P .any ops (NoPanic Q) (Turn S w) ops.size (Array.replicate ops.size false) a wd) : (Code.region id ops true).wp P Q a w :=
 wp_region_noPanic (wp_region_held_drew hm (Turn.of_below S (Old.drew (Old.refl w))) (fun hS => h _ (Old.drew (Old.refl w)) hS rfl))
def byteOf (v : Value) : UInt8 := UInt8.ofNat (intOf v).toNat
theorem byteOf_B (x : UInt8) : byteOf (B x) = x := by unfold byteOf B intOf; simp
def boxL : List UInt8 := (List.range 256).map fun i => sb (UInt8.ofNat i)
def invL : List UInt8 := (List.range 256).map fun i => si (UInt8.ofNat i)
theorem tab_at (f : UInt8 → UInt8) (x : UInt8) : ((List.range 256).map fun i => f (UInt8.ofNat i))[x.toNat]? = some (f x) := by
 rw [List.getElem?_map, List.getElem?_range x.toNat_lt, Option.map_some, UInt8.ofNat_toNat]
theorem box_at (x : UInt8) : boxL[x.toNat]? = some (sb x) := tab_at sb x
theorem inv_at (x : UInt8) : invL[x.toNat]? = some (si x) := tab_at si x
set_option maxHeartbeats 1000000 in
theorem tables_any (c : Nat) (kv : Value) (bx iv : List UInt8) (w : World) (h : CAt w c kv bx iv) :
  Calls Tryz.prog 106 #[.pointer (some ⟨c, 0, none⟩)] w fun e w' => e = .returned (.tuple #[]) ∧ CAt w' c kv boxL invL ∧ Turn [c] w w' := by
 go_enter Tryz.func106, Tryz.ntmps106
 go_wp2
 go_loopw [2, 3] (fun pv qv wr => ∃ (k : Nat) (bx : List UInt8), k < 255 ∧ pv = B (itP k) ∧ qv = B (itQ k) ∧ CAt wr c kv bx iv ∧ Turn [c] w wr ∧ ∀ j, 1 ≤ j → j ≤ k → bx[(itP j).toNat]? = some (sb (itP j))) (fun pv _ _ => 255 - mz (byteOf pv))
 case atStart => exact ⟨0, bx, by omega, rfl, rfl, h, Turn.refl _ _, fun j a b => by omega⟩
 case round =>
  obtain ⟨k, bx', hk, rfl, rfl, hC, hT, hb⟩ := hrel
  have HC := Lib.hid (And.intro hC (And.intro hT hb))
  clear hC hT hb
  have hlt := (itP (k+1)).toNat_lt
  generalize hp : itP k = p at *
  generalize hq : itQ k = q at *
  go_wp2_with (go_at_call 107; refine (twice_any _ _).mono ?_; rintro e wx ⟨rfl, rfl⟩)
  generalize hp' : p ^^^ tw p = p' at *
  generalize hq' : (q ^^^ q <<< 1 ^^^ (q ^^^ q <<< 1) <<< 2 ^^^ (q ^^^ q <<< 1 ^^^ (q ^^^ q <<< 1) <<< 2) <<< 4 ^^^ (q ^^^ q <<< 1 ^^^ (q ^^^ q <<< 1) <<< 2 ^^^ (q ^^^ q <<< 1 ^^^ (q ^^^ q <<< 1) <<< 2) <<< 4) >>> 7 * 9) = q' at *
  have hi : (p'.toNat : Int) < 256 := by have := p'.toNat_lt; omega
  refine region_turn [c] (by kernel_rfl) (fun wd hOld hHeld hSz => ?_)
  have HO := Lib.hid hOld
  clear hOld
  have HSz := Lib.hid hSz
  clear hSz
  refine tkS 0 hHeld ?_
  refine tkS 1 hHeld ?_
  refine tkS 2 hHeld ?_
  refine tkS 3 hHeld ?_
  refine tkS 6 hHeld ?_
  refine tkS 9 hHeld ?_
  refine tkS 12 hHeld ?_
  refine tkS 16 hHeld ?_
  refine tkS 17 hHeld ?_
  refine rdL 4 (fun K hK => ?_)
  go_simp
  refine (turn_any _ 1 (by omega) _).mono ?_
  rintro e wx ⟨rfl, rfl⟩
  refine hK.out _ _ (by repeat (first | exact hHeld | exact Old.refl _ | assumption | refine Old.drew ?_ | refine Old.drewN ?_ _ | refine Old.alloc ?_ _)) (fun hHeld => ?_)
  clear hK K
  try simp only [Act.put, sA, sB, sC]
  refine tkS 5 hHeld ?_
  refine rdL 7 (fun K hK => ?_)
  go_simp
  refine (turn_any _ 2 (by omega) _).mono ?_
  rintro e wx ⟨rfl, rfl⟩
  refine hK.out _ _ (by repeat (first | exact hHeld | exact Old.refl _ | assumption | refine Old.drew ?_ | refine Old.drewN ?_ _ | refine Old.alloc ?_ _)) (fun hHeld => ?_)
  clear hK K
  try simp only [Act.put, sA, sB, sC]
  refine tkS 8 hHeld ?_
  refine rdL 10 (fun K hK => ?_)
  go_simp
  refine (turn_any _ 3 (by omega) _).mono ?_
  rintro e wx ⟨rfl, rfl⟩
  refine hK.out _ _ (by repeat (first | exact hHeld | exact Old.refl _ | assumption | refine Old.drew ?_ | refine Old.drewN ?_ _ | refine Old.alloc ?_ _)) (fun hHeld => ?_)
  clear hK K
  try simp only [Act.put, sA, sB, sC]
  refine tkS 11 hHeld ?_
  refine rdL 13 (fun K hK => ?_)
  go_simp
  refine (turn_any _ 4 (by omega) _).mono ?_
  rintro e wx ⟨rfl, rfl⟩
  refine hK.out _ _ (by repeat (first | exact hHeld | exact Old.refl _ | assumption | refine Old.drew ?_ | refine Old.drewN ?_ _ | refine Old.alloc ?_ _)) (fun hHeld => ?_)
  clear hK K
  try simp only [Act.put, sA, sB, sC]
  refine tkS 14 hHeld ?_
  refine tkS 15 hHeld ?_
  refine tkS 18 hHeld ?_
  obtain ⟨y, hy⟩ : ∃ y, bx'[p'.toNat]? = some y := ⟨_, List.getElem?_eq_getElem (by rw [HC.out.1.1]; exact p'.toNat_lt)⟩
  have hcell := (HC.out.1.2.2.below HO.out)
  have hC' : CAt wd c kv bx' iv := ⟨HC.out.1.1, HC.out.1.2.1, hcell⟩
  have y0 := hC'.boxCell p'.toNat y hy
  have y1 := hcell.frozen (1 + p'.toNat)
  have HD := Lib.hid hC'
  clear hC' hcell hy
  refine rdL 19 (fun K hK => ?_)
  go_simp
  refine hK.out _ _ (hHeld.setCell (.inl (by simp)) _) (fun hHeld => ?_)
  clear hK K
  try simp only [Act.put, sA, sB, sC]
  refine wpAnyH_done (by kernel_rfl) ?_ _
  refine NoPanic.normal ?_
  have hst := steps_at (k + 1) (by omega) (by omega)
  have hNew := HD.out.box p'.toNat (q' ^^^ rot q' 1 ^^^ rot q' 2 ^^^ rot q' 3 ^^^ rot q' 4 ^^^ 99) p'.toNat_lt
  have ep : itP (k + 1) = p' := by rw [← hp', ← hp]; rfl
  have eq' : itQ (k + 1) = q' := by rw [← hq', ← hq]; rfl
  rw [ep, eq'] at hst
  have HN := Lib.hid (And.intro hNew (And.intro hHeld (And.intro hst (And.intro ep eq'))))
  clear hNew hst ep eq' y0 y1
  have HM := Lib.hid (And.intro (mz_at k hk) hp)
  by_cases hend : p' = 1
  ·have h1 : isN p' 1 = true := by rw [hend]; rfl
   clear hp' hq' hp hq hlt
   have hk2 : k + 1 = 255 := by
    rcases Nat.lt_or_ge (k + 1) 255 with h | h
    ·exact absurd hend (HN.out.2.2.1.2.1 h)
    ·omega
   have hall : ∀ j, 1 ≤ j → j ≤ 255 → (bx'.set p'.toNat (q' ^^^ rot q' 1 ^^^ rot q' 2 ^^^ rot q' 3 ^^^ rot q' 4 ^^^ 99))[(itP j).toNat]? = some (sb (itP j)) := fun j a b => by
    rw [List.getElem?_set]
    by_cases e : p'.toNat = (itP j).toNat
    ·rw [if_pos e, if_pos (by rw [HC.out.1.1]; exact p'.toNat_lt)]
     have e' : p' = itP j := UInt8.toNat_inj.1 e
     rw [← e', ← HN.out.2.2.1.1]
     rfl
    ·rw [if_neg e]
     refine HC.out.2.2 j a ?_
     rcases Nat.lt_or_ge k j with h | h
     ·obtain rfl : j = k + 1 := by omega
      exact absurd (by rw [HN.out.2.2.2.1]) e
     ·exact h
   have hC2 := HN.out.1
   have hT2 := HC.out.2.1.trans HN.out.2.1 (fun x hx => .inl hx)
   clear HN HM HD HC hk2 HO HSz hHeld hend
   generalize hbx2 : bx'.set p'.toNat (q' ^^^ rot q' 1 ^^^ rot q' 2 ^^^ rot q' 3 ^^^ rot q' 4 ^^^ 99) = bx2 at *
   clear hbx2
   generalize wd.setCell _ _ = W2 at *
   obtain ⟨y, hy⟩ : ∃ y, bx2[0]? = some y := ⟨_, List.getElem?_eq_getElem (by rw [hC2.1]; omega)⟩
   have y0 := hC2.boxCell 0 y hy
   have y1 := hC2.2.2.frozen 1
   simp only [Nat.add_zero] at y0
   have hC3 := hC2.box 0 99 (by omega)
   have hT3 := hT2.setCell (p := ⟨c, 1 + 0, none⟩) (.inl (by simp)) (B 99)
   simp only [Nat.add_zero] at hC3 hT3
   rw [show B 99 = Value.int .u8 99 from rfl] at hC3 hT3
   have HC3 := Lib.hid hC3
   have HT3 := Lib.hid hT3
   have HALL := Lib.hid hall
   clear hC2 hT2 hall hC3 hT3 hy
   have hrng : (W2.setCell ⟨c, 1, none⟩ (.int .u8 99)).rangeAt c 1 ((bx2.set 0 99).map B) := fun j v hv => by
    rw [List.getElem?_map] at hv
    obtain ⟨x, hx, rfl⟩ := Option.map_eq_some_iff.1 hv
    exact HC3.out.boxCell j x hx
   have hlen : ((bx2.set 0 99).map B).length = 256 := by rw [List.length_map]; exact HC3.out.1
   have hAll2 : bx2.set 0 99 = boxL := by
    unfold boxL
    refine List.ext_getElem? fun i => ?_
    rcases Nat.lt_or_ge i 256 with hi | hi
    ·rw [List.getElem?_map, List.getElem?_range hi, List.getElem?_set]
     by_cases e : 0 = i
     ·subst e
      rw [if_pos rfl, if_pos (by have := HC3.out.1; simpa using Nat.lt_of_lt_of_eq (by omega) this.symm)]
      exact congrArg some sb_zero.symm
     ·rw [if_neg e]
      obtain ⟨j, a, b, hj⟩ := all_met (UInt8.ofNat i) (fun e' => e (by have := congrArg UInt8.toNat e'; simp at this; omega))
      have := HALL.out j a b
      rw [hj] at this
      simpa [Nat.mod_eq_of_lt hi] using this
    ·rw [List.getElem?_eq_none (by rw [HC3.out.1]; exact hi), List.getElem?_eq_none (by simpa using hi)]
   have hCf := HC3.out
   rw [hAll2] at hCf hrng hlen
   obtain ⟨Z, hZ⟩ : ∃ Z, Z = boxL := ⟨_, rfl⟩
   have hZk : ∀ k, k < 256 → Z[k]? = some (sb (UInt8.ofNat k)) := fun k h => by rw [hZ]; unfold boxL; rw [List.getElem?_map, List.getElem?_range h]; rfl
   rw [← hZ] at hCf hrng hlen
   obtain ⟨A, hA⟩ : ∃ A, A = Z.map B := ⟨_, rfl⟩
   have hAk : ∀ k, k < 256 → A.toArray[k]? = some (B (sb (UInt8.ofNat k))) := fun k h => by rw [hA, List.getElem?_toArray, List.getElem?_map, hZk k h]; rfl
   rw [← hA] at hrng hlen
   have HF := Lib.hid hCf
   have HZ := Lib.hid hZ
   have HAk := Lib.hid hAk
   have HL := Lib.hid (And.intro hrng hlen)
   clear hrng hlen hAll2 hCf hZ hZk hAk hA HC3 HALL
   go_wp2_with (refine wpList_load_mid rfl 149 (.tmp 54) rfl c 1 rfl A _ HL.out.1 Tryz.underlying149 rfl (by rw [HL.out.2]; rfl) ?_)
   clear y0 y1 h1
   go_loopw [56] (fun xv wr => ∃ (k : Nat) (iv' : List UInt8), k ≤ 256 ∧ xv = .int .i64 (k : Int) ∧ CAt wr c kv Z iv' ∧ Turn [c] w wr ∧ ∀ j, j < k → iv'[(sb (UInt8.ofNat j)).toNat]? = some (UInt8.ofNat j)) (fun xv _ => 256 - (intOf xv).toNat)
   case atStart => exact ⟨0, iv, by omega, rfl, HF.out, HT3.out, fun j hj => by omega⟩
   case round =>
    obtain ⟨k, iv', hk, rfl, hC, hT, hb⟩ := hrel
    clear HT3 HF hHeld HL
    by_cases hlt : k < 256
    ·have hq : (k : Int) < 256 := by omega
     have hix := fun w => index_arr (t := 149) (q := .i64) Tryz.underlying149 Tryz.underlying5 (by kernel_rfl) hlt (HAk.out k hlt) w
     have hcv : (.int .u8 (k : Int) : Value) = B (UInt8.ofNat k) := by
      have : (UInt8.ofNat k).toNat = k := by simp; omega
      unfold B; rw [this]
     have HCV := Lib.hid hcv
     clear hcv
     generalize hs : sb (UInt8.ofNat k) = s at *
     have hsi : (s.toNat : Int) < 256 := by have := s.toNat_lt; omega
     obtain ⟨y, hy⟩ : ∃ y, iv'[s.toNat]? = some y := ⟨_, List.getElem?_eq_getElem (by rw [hC.2.1]; exact s.toNat_lt)⟩
     have y0 := hC.invCell s.toNat y hy
     have y1 := hC.2.2.frozen (257 + s.toNat)
     have hC3 := hC.inv s.toNat (UInt8.ofNat k)
     have hT3 := hT.setCell (p := ⟨c, 257 + s.toNat, none⟩) (.inl (by simp)) (B (UInt8.ofNat k))
     have HC3 := Lib.hid hC3
     have HT3 := Lib.hid hT3
     have HB := Lib.hid hb
     have HS := Lib.hid hs
     have HLen := Lib.hid hC.2.1
     clear hC hT hC3 hT3 hb hs hy
     go_wp2
     rw [HCV.out]
     refine ⟨⟨k + 1, _, by omega, by go_num, HC3.out, HT3.out, fun j hj => ?_⟩, by simp [intOf]; omega⟩
     rw [List.getElem?_set]
     by_cases e : s.toNat = (sb (UInt8.ofNat j)).toNat
     ·rw [if_pos e, if_pos (by rw [HLen.out]; exact s.toNat_lt)]
      have e' : sb (UInt8.ofNat k) = sb (UInt8.ofNat j) := by rw [HS.out]; exact UInt8.toNat_inj.1 e
      rw [sb_inj _ _ e']
     ·rw [if_neg e]
      rcases Nat.lt_or_ge j k with h | h
      ·exact HB.out j h
      ·obtain rfl : j = k := by omega
       exact absurd (by rw [HS.out]) e
    ·obtain rfl : k = 256 := by omega
     have hq : ¬ ((256 : Int) < 256) := by omega
     have hi2 : iv' = invL := by
      unfold invL
      refine List.ext_getElem? fun i => ?_
      rcases Nat.lt_or_ge i 256 with hi | hi
      ·rw [List.getElem?_map, List.getElem?_range hi]
       have h := hb (si (UInt8.ofNat i)).toNat (UInt8.toNat_lt _)
       rw [UInt8.ofNat_toNat, sb_si] at h
       have hn : (UInt8.ofNat i).toNat = i := by simp; omega
       rw [hn] at h
       exact h
      ·rw [List.getElem?_eq_none (by rw [hC.2.1]; exact hi), List.getElem?_eq_none (by simpa using hi)]
     rw [hi2, HZ.out] at hC
     have HC3 := Lib.hid hC
     have HT3 := Lib.hid hT
     clear hC hT hb hi2 hlt hk
     go_wp2
     go_end0
     exact ⟨rfl, HC3.out, HT3.out⟩
  ·have h1 : isN p' 1 = false := by
    unfold isN
    have : p'.toNat ≠ 1 := fun e => hend (by rw [← UInt8.toNat_inj]; exact e)
    simp; omega
   clear hp' hq' hp hq hlt
   have hk2 : k + 1 < 255 := by
    rcases Nat.lt_or_ge (k + 1) 255 with h | h
    ·exact h
    ·exact absurd (HN.out.2.2.1.2.2 (by omega)) hend
   have HK := Lib.hid hk2
   clear hk2
   go_wp2
   refine ⟨⟨k + 1, _, HK.out, by rw [HN.out.2.2.2.1], by rw [HN.out.2.2.2.2], HN.out.1, HC.out.2.1.trans HN.out.2.1 (fun x hx => .inl hx), fun j a b => ?_⟩, ?_⟩
   ·rw [List.getElem?_set]
    by_cases e : p'.toNat = (itP j).toNat
    ·rw [if_pos e, if_pos (by rw [HC.out.1.1]; exact p'.toNat_lt)]
     have e' : p' = itP j := UInt8.toNat_inj.1 e
     rw [← e', ← HN.out.2.2.1.1]
     rfl
    ·rw [if_neg e]
     refine HC.out.2.2 j a ?_
     rcases Nat.lt_or_ge k j with h | h
     ·obtain rfl : j = k + 1 := by omega
      exact absurd (by rw [HN.out.2.2.2.1]) e
     ·exact h
   ·simp only [byteOf_B]
    have m1 := mz_at (k + 1) HK.out
    rw [HN.out.2.2.2.1] at m1
    have m0 := HM.out.1
    rw [HM.out.2] at m0
    omega
def kT (n i : Nat) (rc t0 t1 t2 t3 : UInt8) : List UInt8 :=
 if i % n = 0 then [sb t1 ^^^ rc, sb t2, sb t3, sb t0] else if n > 6 ∧ i % n = 4 then [sb t0, sb t1, sb t2, sb t3] else [t0, t1, t2, t3]
theorem kT_len (n i : Nat) (rc t0 t1 t2 t3 : UInt8) : (kT n i rc t0 t1 t2 t3).length = 4 := by
 unfold kT; split
 ·rfl
 ·split <;> rfl
def kAdd (n i : Nat) (rc : UInt8) (w : List UInt8) : List UInt8 :=
 List.zipWith (· ^^^ ·) ((w.drop (4 * (i - n))).take 4) (kT n i rc (w.getD (4 * i - 4) 0) (w.getD (4 * i - 3) 0) (w.getD (4 * i - 2) 0) (w.getD (4 * i - 1) 0))
def kRc (n i : Nat) (rc : UInt8) : UInt8 := if i % n = 0 then tw rc else rc
def kW (n : Nat) (l : List UInt8) : Nat → List UInt8 × UInt8
 | 0 => (l, 1)
 | m + 1 => ((kW n l m).1 ++ kAdd n (n + m) (kW n l m).2 (kW n l m).1, kRc n (n + m) (kW n l m).2)
theorem kAdd_len (n i : Nat) (rc : UInt8) (w : List UInt8) (h : 4 * (i - n) + 4 ≤ w.length) : (kAdd n i rc w).length = 4 := by
 unfold kAdd
 rw [List.length_zipWith, List.length_take, List.length_drop, kT_len]; omega
theorem kW_len (n : Nat) (l : List UInt8) (hn : 0 < n) (hl : l.length = 4 * n) (m : Nat) : (kW n l m).1.length = 4 * (n + m) := by
 induction m with
 | zero => exact hl
 | succ m ih =>
  show ((kW n l m).1 ++ kAdd n (n + m) (kW n l m).2 (kW n l m).1).length = _
  rw [List.length_append, ih, kAdd_len _ _ _ _ (by rw [ih]; omega)]; omega
def rks (l : List UInt8) : List UInt8 := (kW (l.length / 4) l (3 * (l.length / 4) + 28)).1
theorem rks_len (l : List UInt8) (h : l.length = 16 ∨ l.length = 24 ∨ l.length = 32) : (rks l).length = 16 * (l.length / 4 + 7) := by
 unfold rks
 rw [kW_len _ _ (by omega) (by omega)]; omega
def OwnK (W : World) (base : Nat) (v : Value) (R : Nat) (ks : List UInt8) : Prop := W.ownsRow base 153 16 v R (ks.map B)
theorem Tryz.infoK : (Tryz.prog.info? 153).map (fun i => (i.zero, i.size, i.bytes)) = some (some (.agg #[.int .u8 0, .int .u8 0, .int .u8 0, .int .u8 0, .int .u8 0, .int .u8 0, .int .u8 0, .int .u8 0, .int .u8 0, .int .u8 0, .int .u8 0, .int .u8 0, .int .u8 0, .int .u8 0, .int .u8 0, .int .u8 0]), 16, 16) := by kernel_rfl
theorem OwnK.nil (w : World) (base : Nat) : OwnK w base (.slice none 0 0) 0 [] := World.ownsRow_nil _ _ _ _
theorem OwnK.keep {w w' : World} {base R : Nat} {v : Value} {l : List UInt8} (h : OwnK w base v R l) (hk : ∀ g, v.ownBlock = some g → w'.heap[g]? = w.heap[g]?) : OwnK w' base v R l := by
 obtain ⟨h1, h2⟩ := h
 refine ⟨h1, ?_⟩
 rcases h2 with h2 | ⟨g, cap, cur, rfl, hg, hh, r⟩
 ·exact .inl h2
 ·exact .inr ⟨g, cap, cur, rfl, hg, (hk g rfl).trans hh, r⟩
theorem OwnK.lt {w : World} {base R : Nat} {v : Value} {l : List UInt8} (h : OwnK w base v R l) {g : Nat} (hg : v.ownBlock = some g) : base ≤ g ∧ g < w.heap.size := World.ownsRow.lt h g hg
theorem OwnK.turn {w w' : World} {S : List Nat} {base R : Nat} {v : Value} {l : List UInt8} (h : OwnK w base v R l) (ht : Turn S w w') (hn : ∀ g, v.ownBlock = some g → g ∉ S) : OwnK w' base v R l :=
 h.keep fun g hg => ht.block g (h.lt hg).2 (hn g hg)
theorem OwnK.alloc_ {w : World} {base R : Nat} {v : Value} {l : List UInt8} (h : OwnK w base v R l) (o : Obj) : OwnK (w.alloc o) base v R l :=
 h.keep fun g hg => ((Below.refl w.heap.size w).alloc (Nat.le_refl _) o).block g (h.lt hg).2
theorem OwnK.len {w : World} {base R : Nat} {v : Value} {l : List UInt8} (h : OwnK w base v R l) : l.length = R * 16 := by
 have := h.1; rwa [List.length_map] at this
theorem OwnK.form {w : World} {base R : Nat} {v : Value} {l : List UInt8} (h : OwnK w base v R l) (hR : 0 < R) :
  ∃ g c, v = .slice (some ⟨g, 0, none⟩) R c ∧ base ≤ g ∧ g < w.heap.size ∧ R ≤ c ∧ c ≤ maxLen ∧ ∀ j x, l[j]? = some x → w.cell? ⟨g, j, none⟩ = some (B x) := by
 have h' := h
 obtain ⟨h1, h2⟩ := h
 rcases h2 with ⟨rfl, h0⟩ | ⟨g, cap, cur, rfl, hg, hh, hnc, hm, hcs, htk⟩
 ·omega
 ·refine ⟨g, cap, rfl, hg, (h'.lt (g := g) rfl).2, hnc, hm, fun j x hx => ?_⟩
  have := World.ownsRow.cells h' (g := g) rfl j (B x) (by rw [List.getElem?_map, hx]; rfl)
  rwa [show (⟨g, 0, none⟩ : Addr).add j = ⟨g, j, none⟩ by rw [Addr.add_mid, Nat.zero_add]] at this
theorem op_appK {o : Oper} {a : Act} {w : World} {K : Act → World → Prop} {Q : Exit → Act → World → Prop} (s x : Operand)
  (ho : o.op = .call { callee := .builtin .append, args := #[s, x], argTypes := #[148, 148] })
  (base R : Nat) (v : Value) (ks : List UInt8) (hs : a.eval s = v) (hown : OwnK w base v R ks) (b : Nat) (l2 : List UInt8) (hx : a.eval x = .slice (some ⟨b, 0, none⟩) 1 1) (hl : l2.length = 16)
  (hc : ∀ j u, (l2.map B)[j]? = some u → w.cell? ⟨b, j, none⟩ = some u) (hR : R ≤ 1000) (hbase : base ≤ w.heap.size)
  (h : ∀ v' w', OwnK w' base v' (R + 1) (ks ++ l2) → w.grownBy w' v.ownBlock → (v'.ownBlock = v.ownBlock ∨ v'.ownBlock = some w.heap.size) → K (a.put o.dst v') w') :
  Oper.wp Tryz.prog o a w K Q := by
 obtain ⟨i0, hi, hz0, hz1, hz2⟩ := info_parts Tryz.infoK
 obtain ⟨v', w', hr, ho', hg, hn, hb⟩ := run_append_own_at (P := Tryz.prog) w base 148 o.type 153 i0 _ 16 16 Tryz.underlying148 hi hz0 hz1 hz2 rfl (by decide) v R (ks.map B) hown ⟨b, 0, none⟩ 1 1 (l2.map B) (by simp [hl])
   (fun j u hu => by rw [show (⟨b, 0, none⟩ : Addr).add j = ⟨b, j, none⟩ by rw [Addr.add_mid, Nat.zero_add]]; exact hc j u hu) (fun u hu => by obtain ⟨x, _, rfl⟩ := List.mem_map.1 hu; rfl) (by unfold maxLen; omega) (by omega) hbase
 unfold Oper.wp
 simp only [execOp, ho, resolve, invoke, builtin, Sem.run_bind, Sem.run_pure, Result.andThen_ok, List.map_toArray, List.map_cons, List.map_nil, hs, hx, hr]
 refine h v' w' ?_ hg hb
 unfold OwnK
 rw [List.map_append]
 exact ho'
theorem step_appK {ops : Array Oper} {o : Oper} {a : Act} {w : World} {K : Act → World → Prop} {Q : Exit → Act → World → Prop} {E : Prop} (hgd : o.guard = none) (s x : Operand)
  (ho : o.op = .call { callee := .builtin .append, args := #[s, x], argTypes := #[148, 148] })
  (base R : Nat) (v : Value) (ks : List UInt8) (hs : a.eval s = v) (hown : OwnK w base v R ks) (b : Nat) (l2 : List UInt8) (hx : a.eval x = .slice (some ⟨b, 0, none⟩) 1 1) (hl : l2.length = 16)
  (hc : ∀ j u, (l2.map B)[j]? = some u → w.cell? ⟨b, j, none⟩ = some u) (hR : R ≤ 1000) (hbase : base ≤ w.heap.size)
  (h : ∀ v' w', OwnK w' base v' (R + 1) (ks ++ l2) → w.grownBy w' v.ownBlock → (v'.ownBlock = v.ownBlock ∨ v'.ownBlock = some w.heap.size) → K (a.put o.dst v') w') :
  if Region.wanted o (yielded ops a.tmps) = true then Oper.wp Tryz.prog o a w K Q else E := by
 rw [if_pos (by simp [Region.wanted, hgd])]
 exact op_appK s x ho base R v ks hs hown b l2 hx hl hc hR hbase h
theorem cells_new (w : World) (l2 : List UInt8) (t : TypeId) : ∀ j u, (l2.map B)[j]? = some u → (w.alloc (.cells (l2.map B).toArray t)).cell? ⟨w.heap.size, j, none⟩ = some u := fun j u hu => by
 have hb : Blk (w.alloc (.cells (l2.map B).toArray t)) w.heap.size t (l2.map B).toArray := Blk.new _ _ _
 rw [hb.cell, List.getElem?_toArray]; exact hu
theorem CAt.keys {W : World} {c : Nat} {kv : Value} {bx iv : List UInt8} (h : CAt W c kv bx iv) (v : Value) : CAt (W.setCell ⟨c, 0, none⟩ v) c v bx iv :=
 ⟨h.1, h.2.1, h.2.2.set_ 0 v⟩
def Cip (W : World) (b0 c : Nat) (ks : List UInt8) (K R cp : Nat) : Prop :=
 CAt W c (.slice (some ⟨K, 0, none⟩) R cp) boxL invL ∧ b0 ≤ c ∧ b0 ≤ K ∧ K < W.heap.size ∧ c ≠ K ∧ ks.length = 16 * R ∧ 11 ≤ R ∧ R ≤ 15 ∧ R ≤ cp ∧ cp ≤ maxLen ∧ ∀ j x, ks[j]? = some x → W.cell? ⟨K, j, none⟩ = some (B x)
def NoB (w : World) (g : Nat) : Prop := ∃ t cs, Blk w g t cs ∧ ∀ u ∈ cs.toList, ∀ x : UInt8, u ≠ B x
theorem NoB.below {w w' : World} {g : Nat} (h : NoB w g) (hb : Below w.heap.size w w') : NoB w' g := by
 obtain ⟨t, cs, h1, h2⟩ := h
 exact ⟨t, cs, h1.below hb, h2⟩
theorem NoB.ne {w : World} {g : Nat} (h : NoB w g) {A : Option Addr} {m c : Nat} {l : List UInt8} (hr : Rd w A m c l) (hm : 0 < m) : ∀ ad, A = some ad → ad.block ≠ g := by
 intro ad had e
 obtain ⟨t, cs, h1, h2⟩ := h
 obtain ⟨b, off, hA, hat⟩ := hr.addr hm
 rw [had] at hA
 injection hA with hA
 subst hA
 simp only at e
 subst e
 have hl : 0 < l.length := by rw [← hr.1]; exact hm
 have hc := hat.cell hl
 rw [h1.cell] at hc
 exact h2 _ (Array.mem_toList_iff.2 (Array.mem_of_getElem? hc)) _ rfl
theorem Rd.turnN {w w' : World} {A : Option Addr} {m c : Nat} {l : List UInt8} {S : List Nat} (h : Rd w A m c l) (hm : 0 < m) (ht : Turn S w w') (hS : ∀ g ∈ S, NoB w g) : Rd w' A m c l :=
 h.turn ht fun ad had hin => (hS _ hin).ne h hm ad had rfl
def Value.noByte : Value → Bool
 | .int .u8 _ => false
 | _ => true
theorem noByte_ne {u : Value} (h : Value.noByte u = true) (x : UInt8) : u ≠ B x := by
 intro e
 subst e
 exact absurd h (by simp [B, Value.noByte])
theorem NoB.of {w : World} {g : Nat} {t : TypeId} {cs : Array Value} (h : Blk w g t cs) (hc : cs.toList.all Value.noByte = true) : NoB w g :=
 ⟨t, cs, h, fun u hu x => noByte_ne (List.all_eq_true.1 hc u hu) x⟩
section
variable {P : Program} {ops : Array Oper} {Q : Exit → Act → World → Prop} {md : Region.Mode} {S : World → Prop}
def wpAnyT (P : Program) (md : Region.Mode) (ops : Array Oper) (Q : Exit → Act → World → Prop) (S : World → Prop) (z : Nat) : Nat → Array Bool → Act → World → Prop
 | 0, listed, a, w => Region.ready md ops listed = [] ∧ Q .normal a w
 | fuel + 1, listed, a, w =>
  (Region.ready md ops listed = [] → Q .normal a w) ∧
  ∀ i ∈ Region.ready md ops listed, wpOp P ops Q i (fun a' w' => (i ≠ z → S w') ∧ wpAnyT P md ops Q S z fuel (listed.setIfInBounds i true) a' w') a w
theorem wpAny_of_T {z : Nat} : ∀ (fuel : Nat) (listed : Array Bool) (a : Act) (w : World), wpAnyT P md ops Q S z fuel listed a w → wpAny P md ops Q fuel listed a w
 | 0, _, _, _, h => h
 | fuel + 1, _, _, _, h => ⟨h.1, fun i hi => wpOp_mono (fun a' w' h' => wpAny_of_T fuel _ a' w' h'.2) (h.2 i hi)⟩
def waitsOn (md : Region.Mode) (ops : Array Oper) (z i : Nat) : Bool := match ops[z]? with
 | some o => o.after.toList.any fun e => Region.binds md e && (e.on == i)
 | none => true
theorem waitsOn_spec {z i : Nat} (h : waitsOn md ops z i = true) {oz : Oper} (hz : ops[z]? = some oz) : ∃ e ∈ oz.after, Region.binds md e = true ∧ e.on = i := by
 unfold waitsOn at h
 rw [hz] at h
 simp only [List.any_eq_true, Bool.and_eq_true, beq_iff_eq] at h
 obtain ⟨e, he, h1, h2⟩ := h
 exact ⟨e, by simpa using he, h1, h2⟩
theorem wpAnyT_first {z i : Nat} {oi : Oper} {v : Value} (hz : waitsOn md ops z i = true) (hi : ops[i]? = some oi) (hsel : ∀ (j : Nat) (o : Oper) cs b, ops[j]? = some o → o.op ≠ .select cs b)
  (hQ : ∀ c a w, Q (.panic c) (a.put oi.dst v) w → Q (.panic c) a w) :
  ∀ (fuel : Nat) (listed : Array Bool) (a : Act) (w : World),
   (∀ j oj, ops[j]? = some oj → j ≠ i → listed.getD j true = false → (∀ e ∈ oj.after, Region.binds md e = true → e.on ≠ i) → oi.apart ops oj = true) →
   i ∈ Region.ready md ops listed → YieldsIf P ops S oi v a → S w →
   wpAnyT P md ops Q S z fuel (listed.setIfInBounds i true) (a.put oi.dst v) w → wpAnyT P md ops Q S z (fuel + 1) listed a w := by
 intro fuel
 induction fuel with
 | zero =>
  intro listed a w _ hr hy hS H
  refine ⟨fun h => (by rw [h] at hr; cases hr), fun j hj => ?_⟩
  by_cases hji : j = i
  ·subst hji; exact hy.wpOp hi hS ⟨fun _ => hS, H⟩
  ·have := ready_mono hj hji
   rw [H.1] at this
   cases this
 | succ fuel ih =>
  intro listed a w hfree hr hy hS H
  refine ⟨fun h => (by rw [h] at hr; cases hr), fun j hj => ?_⟩
  by_cases hji : j = i
  ·subst hji; exact hy.wpOp hi hS ⟨fun _ => hS, H⟩
  ·have h1 := H.2 j (ready_mono hj hji)
   obtain ⟨hjun, oj, hoj, hall⟩ := mem_ready.1 hj
   have hnot : ∀ e ∈ oj.after, Region.binds md e = true → e.on ≠ i := fun e he hb heq => by
    have h1 := hall e he hb
    have h0 := (mem_ready.1 hr).1
    rw [heq] at h1
    rcases Nat.lt_or_ge i listed.size with h' | h'
    ·simp [h'] at h0 h1; rw [h0] at h1; cases h1
    ·simp [Array.getElem?_eq_none h'] at h1
   have hjz : j ≠ z := fun e => by
    subst e
    obtain ⟨e, he, hb, hon⟩ := waitsOn_spec hz hoj
    exact hnot e he hb hon
   have h2 := wpOp_putIf hoj (hfree j oj hoj hji hjun hnot) (fun cs b => hsel i oi cs b hi) (fun cs b => hsel j oj cs b hoj) hQ hy h1
   have hfree' : ∀ k ok, ops[k]? = some ok → k ≠ i → (listed.setIfInBounds j true).getD k true = false →
     (∀ e ∈ ok.after, Region.binds md e = true → e.on ≠ i) → oi.apart ops ok = true := fun k ok hk hki hun hno => by
    refine hfree k ok hk hki ?_ hno
    by_cases hjk : j = k
    ·subst hjk; exact hjun
    ·rw [getD_set_ne true hjk] at hun; exact hun
   refine wpOp_mono (fun a' w' h3 => ⟨h3.2.1, ih (listed.setIfInBounds j true) a' w' hfree' (ready_mono hr (Ne.symm hji)) h3.1 (h3.2.1 hjz) ?_⟩) h2
   rw [Array.setIfInBounds_comm _ _ hji]
   exact h3.2.2
theorem takeZ {z i : Nat} {oi : Oper} {v : Value} {fuel : Nat} {listed : Array Bool} {a : Act} {w : World} (hz : waitsOn md ops z i = true) (hi : ops.toList[i]? = some oi)
  (hs : Region.noSelect ops = true) (hf : Region.free md ops listed i = true) (hr : (Region.ready md ops listed).contains i = true)
  (hQ : ∀ c a w, Q (.panic c) (a.put oi.dst v) w → Q (.panic c) a w) (hy : YieldsIf P ops S oi v a) (hS : S w)
  (h : wpAnyT P md ops Q S z fuel (listed.setIfInBounds i true) (a.put oi.dst v) w) : wpAnyT P md ops Q S z (fuel + 1) listed a w :=
 wpAnyT_first hz (by simpa using hi) (Region.noSelect_spec hs) hQ fuel listed a w (Region.free_spec (by simpa using hi) hf) (by simpa using hr) hy hS h
def AllReadyT (P : Program) (md : Region.Mode) (ops : Array Oper) (Q : Exit → Act → World → Prop) (S : World → Prop) (z : Nat) (fuel : Nat) (listed : Array Bool) (a : Act) (w : World) (rs : List Nat) : Prop :=
 ∀ i ∈ rs, wpOp P ops Q i (fun a' w' => (i ≠ z → S w') ∧ wpAnyT P md ops Q S z fuel (listed.setIfInBounds i true) a' w') a w
theorem AllReadyT.nil {z fuel : Nat} {listed : Array Bool} {a : Act} {w : World} : AllReadyT P md ops Q S z fuel listed a w [] := fun _ h => by cases h
theorem wpAnyT_ready {z : Nat} {rs : List Nat} {fuel : Nat} {listed : Array Bool} {a : Act} {w : World} (hr : Region.ready md ops listed = rs) (hne : rs ≠ [])
  (h : AllReadyT P md ops Q S z fuel listed a w rs) : wpAnyT P md ops Q S z (fuel + 1) listed a w := ⟨fun h0 => absurd (hr ▸ h0) hne, hr ▸ h⟩
theorem consZ {z fuel : Nat} {listed : Array Bool} {a : Act} {w : World} {i : Nat} {o : Oper} {rs : List Nat} (ho : ops.toList[i]? = some o)
  (h : ∀ K' : Act → World → Prop, Shut (∀ a w, S w → (S w → wpAnyT P md ops Q S z fuel (listed.setIfInBounds i true) a w) → K' a w) → if Region.wanted o (yielded ops a.tmps) = true then Oper.wp P o a w K' Q else K' (a.put o.dst undef) w)
  (hs : AllReadyT P md ops Q S z fuel listed a w rs) : AllReadyT P md ops Q S z fuel listed a w (i :: rs) := fun j hj => by
 rcases List.mem_cons.1 hj with rfl | hj
 ·exact wpOp_step (by simpa using ho) (fun K' hK => h K' (fun a w hS hW => hK a w ⟨fun _ => hS, hW hS⟩))
 ·exact hs j hj
theorem consZl {z fuel : Nat} {listed : Array Bool} {a : Act} {w : World} {o : Oper} {rs : List Nat} (ho : ops.toList[z]? = some o)
  (h : ∀ K' : Act → World → Prop, Shut (∀ a w, wpAnyT P md ops Q S z fuel (listed.setIfInBounds z true) a w → K' a w) → if Region.wanted o (yielded ops a.tmps) = true then Oper.wp P o a w K' Q else K' (a.put o.dst undef) w)
  (hs : AllReadyT P md ops Q S z fuel listed a w rs) : AllReadyT P md ops Q S z fuel listed a w (z :: rs) := fun j hj => by
 rcases List.mem_cons.1 hj with rfl | hj
 ·exact wpOp_step (by simpa using ho) (fun K' hK => h K' (fun a w hW => hK a w ⟨fun hn => absurd rfl hn, hW⟩))
 ·exact hs j hj
theorem wpAnyT_done {z : Nat} {listed : Array Bool} {a : Act} {w : World} (hr : Region.ready md ops listed = []) (h : Q .normal a w) :
  ∀ fuel, wpAnyT P md ops Q S z fuel listed a w
 | 0 => ⟨hr, h⟩
 | _ + 1 => ⟨fun _ => h, by rw [hr]; simp⟩
end
theorem region_oldZ {P : Program} {ops : Array Oper} {Q : Exit → Act → World → Prop} {id : Nat} {a : Act} {w : World} (z : Nat) (hm : P.follows .mixedOrders = true)
  (h : ∀ wd, Old w wd → w.heap.size = wd.heap.size → wpAnyT P .any ops (NoPanic Q) (Old w) z ops.size (Array.replicate ops.size false) a wd) : (Code.region id ops true).wp P Q a w :=
 wp_region_noPanic (wp_region_any hm (wpAny_of_T _ _ _ _ (h w.drew (Old.drew (Old.refl w)) rfl)))
theorem equalB_any_q (A : Option Addr) (m c : Nat) (A' : Option Addr) (m' c' : Nat) (l l' : List UInt8) (w : World) (hr : Rd w A m c l) (hr' : Rd w A' m' c' l') :
  Calls Tryz.prog 66 #[.slice A m c, .slice A' m' c'] w fun e w' => (e = .returned (.bool (decide (l = l')))) ∧ w = w' := by
 have s1 := hr.str
 have s2 := hr'.str
 clear hr hr'
 by_cases he : l = l'
 ·rw [decide_eq_true he]
  subst he
  go_enter Tryz.func66, Tryz.ntmps66
  go_wp2
  go_ret
  exact ⟨by first | rfl | simp, rfl⟩
 ·rw [decide_eq_false he]
  have hn : (⟨l.toArray⟩ : ByteArray) ≠ ⟨l'.toArray⟩ := fun e => he (by simpa using congrArg (fun b => b.data.toList) e)
  go_enter Tryz.func66, Tryz.ntmps66
  go_wp2
  go_ret
  exact ⟨by first | rfl | simp [he], rfl⟩
end Go.Proofs.YtgjnmpjimhbfgaaGreatDoor
