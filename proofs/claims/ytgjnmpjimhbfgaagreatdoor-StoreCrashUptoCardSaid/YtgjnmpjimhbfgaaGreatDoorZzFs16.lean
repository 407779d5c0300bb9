/-
  blockfs: a map of rows of bytes.
-/
import Derived.Test.YtgjnmpjimhbfgaaGreatDoorZzFs6
import Derived.Maps.OwnSet
import Derived.Test.YtgjnmpjimhbfgaaGreatDoorZzFull
import Derived.Lib.SlBytesConst
import Derived.Test.YtgjnmpjimhbfgaaGreatDoorZzRowK
namespace Go.Proofs.YtgjnmpjimhbfgaaGreatDoor
set_option maxRecDepth 100000
open Go.RowKit Go.Maps
def wf64 (a : Int) : Prop := (Lit.int .i64 a).wf = true
theorem wf64_small {a : Int} (h0 : 0 ≤ a) (h1 : a ≤ 1000000) : wf64 a := by
 unfold wf64 Lit.wf
 have e : IntKind.i64.min = -9223372036854775808 := by decide
 simp
 rw [e]
 omega
def elV (v : Value) : Option (DataW Value × List MemPlace) := some (.held v, [])
def BMap (W : World) (b n : Nat) (f : Int → Option Value) : Prop :=
 ∃ D : DataW Value, W.ownsMap Tryz.prog 3 elV b n D ∧ ∀ x, wf64 x → Maps.has D (.int .i64 x) = (f x).isSome ∧ ∀ u, f x = some u → ∀ z, D.atKey (.int .i64 x) z = .held u
theorem BMap.made (w : World) : BMap (w.alloc (.map #[] 0)) w.heap.size 0 (fun _ => none) := ⟨_, World.ownsMap_made _ _ _ _, fun x _ => ⟨rfl, fun u h => by cases h⟩⟩
theorem BMap.lt {W : World} {b n : Nat} {f : Int → Option Value} (h : BMap W b n f) : b < W.heap.size := by obtain ⟨D, h, _⟩ := h; exact h.lt
theorem BMap.mono {W : World} {b n n' : Nat} {f : Int → Option Value} (h : BMap W b n f) (hn : n ≤ n') : BMap W b n' f := by obtain ⟨D, h, h2⟩ := h; exact ⟨D, h.mono hn, h2⟩
theorem BMap.keep {W W' : World} {b n : Nat} {f : Int → Option Value} (h : BMap W b n f) (hk : W'.heap[b]? = W.heap[b]?) : BMap W' b n f := by
 obtain ⟨D, ⟨es, clock, hb, h1⟩, h2⟩ := h
 exact ⟨D, ⟨es, clock, hk.trans hb, h1⟩, h2⟩
theorem BMap.turn {W W' : World} {b n : Nat} {f : Int → Option Value} (h : BMap W b n f) {S : List Nat} (ht : Turn S W W') (hS : b ∉ S) : BMap W' b n f := h.keep (ht.block b h.lt hS)
theorem BMap.obj {W : World} {b n : Nat} {f : Int → Option Value} (h : BMap W b n f) : ∃ es clock, W.heap[b]? = some (.map es clock) := by
 obtain ⟨D, ⟨es, clock, hb, h1⟩, h2⟩ := h
 exact ⟨es, clock, hb⟩
theorem BMap.ne {W : World} {b n : Nat} {f : Int → Option Value} (h : BMap W b n f) {g : Nat} {t : TypeId} {cs : Array Value} (hg : Blk W g t cs) : b ≠ g := by
 rintro rfl
 obtain ⟨es, clock, hb⟩ := h.obj
 have : W.heap[b]? = some (.cells cs t) := hg
 rw [hb] at this
 cases this
theorem zeroB (w : World) : (zeroValue 32).run Tryz.prog w = .ok (.slice none 0 0) w := by kernel_rfl
theorem keyB : Keyed Tryz.prog 3 := int_keyed Tryz.underlying3
theorem BMap.look {W : World} {b n : Nat} {f : Int → Option Value} (h : BMap W b n f) (x : Int) (hx : wf64 x) :
  (Instr.lookup 79 (.map (some b)) (.int .i64 x) true).run Tryz.prog W = .ok (.tuple #[(f x).getD (.slice none 0 0), .bool (f x).isSome]) W := by
 obtain ⟨D, h1, h2⟩ := h
 obtain ⟨hh, hu⟩ := h2 x hx
 obtain ⟨v, ps, hrun, hv⟩ := h1.look_ok keyB Tryz.underlying79 (zeroB W) (zd := .held (.slice none 0 0)) (zp := []) rfl (keyOf_int_mk Tryz.underlying3 hx)
 rw [hrun, hh]
 unfold elV at hv
 injection hv with hv
 injection hv with hv _
 congr 3
 cases hf : f x with
 | none =>
  rw [hf] at hh
  rw [Maps.atKey_of_not_has hh] at hv
  injection hv with hv
  rw [hv]; rfl
 | some u =>
  rw [hu u hf] at hv
  injection hv with hv
  rw [hv]; rfl
def putB (f : Int → Option Value) (x : Int) (u : Value) : Int → Option Value := fun a => if a = x then some u else f a
theorem puttedB {D : DataW Value} {f : Int → Option Value} (hD : Maps.IsMap D) (h2 : ∀ x, wf64 x → Maps.has D (.int .i64 x) = (f x).isSome ∧ ∀ u, f x = some u → ∀ z, D.atKey (.int .i64 x) z = .held u) (x : Int) (u : Value) :
  ∀ a, wf64 a → Maps.has (D.put (.int .i64 x) (.held u)) (.int .i64 a) = (putB f x u a).isSome ∧ ∀ v, putB f x u a = some v → ∀ z, (D.put (.int .i64 x) (.held u)).atKey (.int .i64 a) z = .held v := by
 intro a ha
 unfold putB
 by_cases he : a = x
 ·subst he
  rw [if_pos rfl]
  exact ⟨Maps.has_put_same hD (by simp [WideAt.IsKeyLit]) _, fun v hv z => by injection hv with hv; subst hv; exact Maps.atKey_put_same hD (by simp [WideAt.IsKeyLit]) _ _⟩
 ·rw [if_neg he]
  have hne : (Lit.int .i64 a) ≠ .int .i64 x := fun e => he (by injection e)
  exact ⟨by rw [Maps.has_put_other hne]; exact (h2 a ha).1, fun v hv z => by rw [Maps.atKey_put_other hne]; exact (h2 a ha).2 v hv z⟩
theorem Turn.of_map {W W' : World} {b : Nat} (h : W.mapTurned W' b) : Turn [b] W W' := by
 have hg := h.grown
 exact ⟨hg.os, hg.tape, hg.output, hg.size, fun k hk hn => hg.block k hk (fun e => hn (by injection e with e; rw [e]; simp))⟩
theorem BMap.store {W : World} {b n : Nat} {f : Int → Option Value} (h : BMap W b n f) (hn : n < maxLen) (x : Int) (u : Value) (hx : wf64 x) :
  ∃ W', (Instr.mapUpdate 79 (.map (some b)) (.int .i64 x) u).run Tryz.prog W = .ok () W' ∧ BMap W' b (n + 1) (putB f x u) ∧ Turn [b] W W' := by
 obtain ⟨D, h1, h2⟩ := h
 obtain ⟨W', hr, ho, ht⟩ := h1.store keyB Tryz.underlying79 hn (keyOf_int_mk Tryz.underlying3 hx) (d := .held u) (ps := []) rfl
 exact ⟨W', hr, ⟨_, ho, puttedB h1.isMap h2 x u⟩, Turn.of_map ht⟩
theorem wp_putB {ops : Array Oper} {rest : List Oper} {o : Oper} {a : Act} {w : World} {Q : Exit → Act → World → Prop} (m k v : Operand) (b n : Nat) (f : Int → Option Value) (x : Int) (u : Value) (h : BMap w b n f) (hn : n < maxLen) (hx : wf64 x) (hgd : o.guard = none)
  (ho : o.op = .mapUpdate 79 m k v) (hm : a.eval m = .map (some b)) (hk : a.eval k = .int .i64 x) (hv : a.eval v = u)
  (hK : ∀ w', BMap w' b (n + 1) (putB f x u) → Turn [b] w w' → wpList Tryz.prog ops Q rest (a.put o.dst undef) w') : wpList Tryz.prog ops Q (o :: rest) a w := by
 refine wpList_plain hgd fun K hK' => ?_
 obtain ⟨w', hr, h1, h2⟩ := h.store hn x u hx
 unfold Oper.wp
 simp [execOp, ho, hm, hk, hv, hr, Result.andThen]
 exact hK' _ _ (hK w' h1 h2)
end Go.Proofs.YtgjnmpjimhbfgaaGreatDoor
namespace Go.Proofs.YtgjnmpjimhbfgaaGreatDoor
set_option maxRecDepth 100000
open Go.RowKit
theorem region_turnV {P : Program} {ops : Array Oper} {Q : Exit → Act → World → Prop} {id : Nat} {a : Act} {w : World} (T : List Nat) (hm : P.follows .mixedOrders = true)
  (h : ∀ wd, Old w wd → Turn T w wd → w.heap.size = wd.heap.size → wpAnyH P .any ops (NoPanic Q) (Turn T w) ops.size (Array.replicate ops.size false) a wd) : (Code.region id ops true).wp P Q a w :=
 wp_region_noPanic (wp_region_held_drew hm (Turn.drew (Turn.refl T w)) (fun hS => h _ (Old.drew (Old.refl w)) hS rfl))
def toPut (p : PutV) : Nat × List UInt8 := (p.blk.toNat, p.l)
def rowsF (ps : List PutV) : Int → Option Value := ps.foldl (fun f p => putB f p.blk (.slice p.A p.n p.c)) (fun _ => none)
theorem rowsF_take {ps : List PutV} {k : Nat} {p : PutV} (hk : ps[k]? = some p) : rowsF (ps.take (k + 1)) = putB (rowsF (ps.take k)) p.blk (.slice p.A p.n p.c) := by
 unfold rowsF
 rw [List.take_add_one, hk, List.foldl_append]
 rfl
theorem rowsF_spec (ps : List PutV) (h : ∀ p ∈ ps, 0 ≤ p.blk) (i : Nat) :
  (rowsF ps i = none ∧ lastPut (ps.map toPut) i = none) ∨ ∃ p, p ∈ ps ∧ rowsF ps i = some (.slice p.A p.n p.c) ∧ lastPut (ps.map toPut) i = some p.l := by
 induction ps using snocP with
 | h0 => exact .inl ⟨rfl, rfl⟩
 | h1 l p ih =>
  have e1 : rowsF (l ++ [p]) = putB (rowsF l) p.blk (.slice p.A p.n p.c) := by unfold rowsF; rw [List.foldl_append]; rfl
  rw [e1, List.map_append, List.map_cons, List.map_nil, lastPut_snoc]
  unfold putB toPut
  have hp := h p (by simp)
  by_cases he : (i : Int) = p.blk
  ·rw [if_pos he, if_pos (by simp only; omega)]
   exact .inr ⟨p, by simp, rfl, rfl⟩
  ·rw [if_neg he, if_neg (by simp only; omega)]
   rcases ih (fun q hq => h q (by simp [hq])) with h1 | ⟨q, h1, h2⟩
   ·exact .inl h1
   ·exact .inr ⟨q, by simp [h1], h2⟩
theorem row_append (ys : List (List UInt8)) : ∀ (xs : List (List UInt8)) (s : Dsk) (i : Nat), s.row i (xs ++ ys) = if (s.row i xs).1 = true then (s.row i xs).2.row (i + xs.length) ys else (false, (s.row i xs).2)
 | [], s, i => by unfold Dsk.row; simp; cases ys <;> simp [Dsk.row] <;> rfl
 | x :: xs, s, i => by
  show (if (s.wrote i x).1 then (s.wrote i x).2.row (i + 1) (xs ++ ys) else (false, (s.wrote i x).2)) = _
  have e : s.row i (x :: xs) = if (s.wrote i x).1 then (s.wrote i x).2.row (i + 1) xs else (false, (s.wrote i x).2) := rfl
  rw [e]
  by_cases h : (s.wrote i x).1 = true
  ·rw [if_pos h, if_pos h, row_append ys xs, List.length_cons, show i + 1 + xs.length = i + (xs.length + 1) by omega]
  ·rw [if_neg h, if_neg h, if_neg (by simp)]
theorem row_one (s : Dsk) (i : Nat) (b : List UInt8) : s.row i [b] = s.wrote i b := by
 show (if (s.wrote i b).1 then (s.wrote i b).2.row (i + 1) [] else (false, (s.wrote i b).2)) = _
 cases h : s.wrote i b with
 | mk ok s' => cases ok <;> simp [Dsk.row]
theorem row_step {s sr : Dsk} {i0 i : Nat} {m2 : List (List UInt8)} {b : List UInt8} (h : s.row i0 (m2.take i) = (true, sr)) (hb : m2[i]? = some b) : s.row i0 (m2.take (i + 1)) = sr.wrote (i0 + i) b := by
 have hi := (List.getElem?_eq_some_iff.1 hb).1
 rw [List.take_add_one, hb, Option.toList_some, row_append, h, if_pos rfl, List.length_take, Nat.min_eq_left (by omega), row_one]
theorem row_stop {s sr sw : Dsk} {i0 i : Nat} {m2 : List (List UInt8)} {b : List UInt8} (h : s.row i0 (m2.take i) = (true, sr)) (hb : m2[i]? = some b) (hw : sr.wrote (i0 + i) b = (false, sw)) : s.row i0 m2 = (false, sw) := by
 have h1 := row_step h hb
 rw [hw] at h1
 have := row_append (m2.drop (i + 1)) (m2.take (i + 1)) s i0
 rw [List.take_append_drop, h1] at this
 rw [this, if_neg (by simp)]
set_option maxHeartbeats 2000000 in
theorem fsturn_any (v d L B c k P cp : Nat) (br : Bool) (ps : List PutV) (s : Dsk) (m : List (List UInt8)) (w : World) (hV : VolB w v d B c br) (hD : DkAt w d L s) (hK : KAt w) (hP : PutsAt w P ps)
  (hne : ∀ p ∈ ps, ∀ ad, p.A = some ad → ad.block ∉ [d, L]) (hm : mayP B ps = true) (hB : (s.n - 8) / 2 = B) (hn16 : 16 ≤ s.n) (hn2 : s.n ≤ 1000) (hc : c < 10000) (hf : FOk s k) (hk : k < 10000)
  (hml : m.length = B) (hside : ∀ i b, m[i]? = some b → Cl s (8 + c % 2 * B + i) b) :
  Calls Tryz.prog 65 #[.pointer (some ⟨v, 0, none⟩), .slice (some ⟨P, 0, none⟩) ps.length cp] w fun e w' =>
   e = .returned (.bool (s.turnW headB c (after m (ps.map toPut))).1) ∧ DkAt w' d L (s.turnW headB c (after m (ps.map toPut))).2 ∧ Turn [d, L] w w' := by
 have hmy := hm
 unfold mayP at hmy
 rw [Bool.and_eq_true, decide_eq_true_iff, List.all_eq_true] at hmy
 have hok : ∀ p ∈ ps, 0 ≤ p.blk ∧ p.blk < B ∧ p.l.length = 256 := fun p hp => by
  have := hmy.2 p hp
  unfold okP at this
  simp at this
  omega
 obtain ⟨N, hN⟩ : ∃ N, ps.length = N := ⟨_, rfl⟩
 obtain ⟨m2, hm2⟩ : ∃ m2, after m (ps.map toPut) = m2 := ⟨_, rfl⟩
 have hm2l : m2.length = B := by rw [← hm2, after_len, hml]
 have hvd : v ∉ [d, L] := by
  obtain ⟨⟨cs, h1⟩, cs2, h2⟩ := hD.typed
  simp
  exact ⟨Blk.ne_ hV h1 (by decide), Blk.ne_ hV h2 (by decide)⟩
 obtain ⟨q, hq⟩ : ∃ q, s.turnW headB c m2 = q := ⟨_, rfl⟩
 rw [hN, hm2, hq]
 unfold Dsk.turnW at hq
 rw [hB] at hq
 obtain ⟨i0, hi0⟩ : ∃ i0, 8 + (c + 1) % 2 * B = i0 := ⟨_, rfl⟩
 rw [hi0] at hq
 have hin := side_in (c := c) hn16
 have hin2 := side_in (c := c + 1) hn16
 rw [hB] at hin hin2
 have HQ := Lib.hid hq
 have HV := Lib.hid (And.intro hV (And.intro hD (And.intro hK (And.intro hP (And.intro hne (And.intro hok (And.intro hN hvd)))))))
 have HM := Lib.hid (And.intro hm2 (And.intro hm2l (And.intro hml (And.intro hside (And.intro hf (And.intro hB (And.intro hi0 (And.intro hin (And.intro hin2 (And.intro hn16 hn2))))))))))
 have hNB : N ≤ B := by rw [← hN]; exact hmy.1
 have hB5 : B ≤ 496 := by omega
 clear hV hD hK hP hne hm hmy hok hN hm2 hm2l hml hside hf hB hi0 hin hin2 hn16 hn2 hvd hq
 have hmm := @run_makeMap Tryz.prog
 go_enter Tryz.func65, Tryz.ntmps65
 go_wp2_with fail
 clear hmm
 obtain ⟨M, hM⟩ : ∃ M, w.heap.size = M := ⟨_, rfl⟩
 obtain ⟨w0, hw0⟩ : ∃ w0, w.alloc (.map #[] 0) = w0 := ⟨_, rfl⟩
 have hO0 : Old w w0 := by rw [← hw0]; exact (Old.refl w).alloc _
 have hB0 : BMap w0 M 0 (fun _ => none) := by rw [← hw0, ← hM]; exact BMap.made w
 have HM0 := Lib.hid (And.intro hO0 (And.intro hB0 hM))
 rw [hM, hw0]
 clear hO0 hB0 hw0 hM
 go_loopw [15] (fun i wr => ∃ k : Nat, k ≤ N ∧ i = .int .i64 (k : Int) ∧ Old w wr ∧ BMap wr M k (rowsF (ps.take k))) (fun i _ => N - (intOf i).toNat)
 case atStart => exact ⟨0, by omega, rfl, HM0.out.1, HM0.out.2.1⟩
 case round =>
  obtain ⟨j, hj, rfl, hO, hA⟩ := hrel
  have HR := Lib.hid (And.intro hO hA)
  clear hO hA
  by_cases hlt : j < N
  ·have hlti : (j : Int) < N := by omega
   have hltd : decide ((j : Int) < (N : Int)) = true := decide_eq_true hlti
   obtain ⟨p, hp⟩ : ∃ p, ps[j]? = some p := ⟨_, List.getElem?_eq_getElem (by rw [HV.out.2.2.2.2.2.2.1]; exact hlt)⟩
   have hPr := HV.out.2.2.2.1.below HR.out.1
   obtain ⟨k0, k1, _⟩ := hPr.at_ j p hp
   have hok := HV.out.2.2.2.2.2.1 p (List.mem_of_getElem? hp)
   have hst := rowsF_take hp
   obtain ⟨blk, A2, n2, c2, l2⟩ := p
   simp only at k0 k1 hok hst
   have hwf := wf64_small hok.1 (by omega)
   have hjm : j < maxLen := by unfold maxLen; omega
   have HP := Lib.hid (And.intro hst (And.intro hwf hjm))
   clear hPr hp hok hst hwf hjm
   go_wp2_with (first | (at_mapUpdate; go_must (refine wp_putB _ _ _ M j (rowsF (ps.take j)) blk (.slice A2 n2 c2) (BMap.turn HR.out.2 ((Turn.refl [] _).alloc _) (by simp)) HP.out.2.2 HP.out.2.1 rfl rfl rfl rfl rfl ?_); intro w2 hm2 ht2; have H2 := Lib.hid (And.intro hm2 ht2); clear hm2 ht2))
   go_roundw
   case measure => simp [intOf]; omega
   have hOl : Old w w2 := by
    have hl := BMap.lt HM0.out.2.1
    have := ((Turn.of_below [M] HR.out.1).alloc _).trans H2.out.2 (fun x hx => .inl hx)
    exact ⟨this.os, this.tape, this.output, this.size, fun k hk => this.block k hk (by rw [List.mem_singleton]; have := HM0.out.2.2; omega)⟩
   exact ⟨j + 1, by omega, by simp, hOl, by rw [HP.out.1]; exact H2.out.1⟩
  ·obtain rfl : j = N := by omega
   have hlti : ¬ (j : Int) < j := by omega
   have hltd : decide ((j : Int) < (j : Int)) = false := decide_eq_false hlti
   have hBm := HR.out.2
   rw [List.take_of_length_le (by rw [HV.out.2.2.2.2.2.2.1]; omega)] at hBm
   obtain ⟨w1, hw1⟩ : ∃ w1, w1 = wr := ⟨_, rfl⟩
   subst hw1
   have hV1 : VolB w1 v d B c br := Blk.below HV.out.1 HR.out.1
   have HW := Lib.hid (And.intro hBm (And.intro hV1 (And.intro (HV.out.2.1.below HR.out.1) (And.intro (HV.out.2.2.1.below HR.out.1) HR.out.1))))
   have hcs := hV1.cells
   clear hBm hV1
   go_wp2_with fail
   clear hcs
   go_loopw [29] (fun i wr => ∃ (i' : Nat) (sr : Dsk), i' ≤ B ∧ i = .int .i64 (i' : Int) ∧ s.row i0 (m2.take i') = (true, sr) ∧ DkAt wr d L sr ∧ Turn [d, L] w1 wr) (fun i _ => B - (intOf i).toNat)
   case atStart => exact ⟨0, s, by omega, rfl, rfl, HW.out.2.2.1, Turn.refl _ _⟩
   case round =>
    obtain ⟨i, sr, hi, rfl, hrow, hDr, hTr⟩ := hrel
    have hVr : VolB wr v d B c br := Blk.turn HW.out.2.1 hTr HV.out.2.2.2.2.2.2.2
    have hdid := row_did (m2.take i) s i0
    have hfok := row_fok (m2.take i) s i0 k HM.out.2.2.2.2.1
    have htl : (m2.take i).length = i := by rw [List.length_take, HM.out.2.1]; omega
    have hcl := fun j b => row_cl (m2.take i) s i0 j b
    rw [hrow] at hdid hfok hcl
    rw [htl] at hfok
    simp only at hdid hfok hcl
    have HR2 := Lib.hid (And.intro hrow (And.intro hDr (And.intro hTr (And.intro hVr (And.intro hdid (And.intro hfok hcl))))))
    clear hrow hDr hTr hVr hdid hfok hcl htl
    by_cases hlt2 : i < B
    ·have hlt2i : (i : Int) < B := by omega
     have hlt2d : decide ((i : Int) < (B : Int)) = true := decide_eq_true hlt2i
     obtain ⟨b0, hb0⟩ : ∃ b0, m[i]? = some b0 := ⟨_, List.getElem?_eq_getElem (by rw [HM.out.2.2.1]; exact hlt2)⟩
     have hrd : sr.rd (8 + c % 2 * B + i) = b0 := by
      refine (HR2.out.2.2.2.2.2.2 (8 + c % 2 * B + i) b0 (HM.out.2.2.2.1 i b0 hb0) ?_ ?_).1
      ·rw [List.length_take, HM.out.2.1]; have := HM.out.2.2.2.2.2.2.2.2.1; have := HM.out.2.2.2.2.2.2.1; omega
      ·rw [List.length_take, HM.out.2.1]
       have hh := side_apart (n := s.n) (c := c) (i := i) (i2 := i0) (j := 8 + c % 2 * B + i) (j2 := i0 + B) (by rw [HM.out.2.2.2.2.2.1]; exact hlt2) (by rw [HM.out.2.2.2.2.2.1]) (by rw [HM.out.2.2.2.2.2.1]; exact HM.out.2.2.2.2.2.2.1) (by rw [HM.out.2.2.2.2.2.1])
       omega
     have hmb := after_get m (ps.map toPut) i (by rw [HM.out.2.2.1]; exact hlt2)
     rw [HM.out.1, hb0, Option.getD_some] at hmb
     have hspec := rowsF_spec ps (fun p hp => (HV.out.2.2.2.2.2.1 p hp).1) i
     have hlk := BMap.look (BMap.turn HW.out.1 HR2.out.2.2.1 (by have := HV.out.2.1.lt; have := HM0.out.2.2; simp; omega)) (i : Int) (wf64_small (by omega) (by omega))
     have HI := Lib.hid (And.intro hb0 (And.intro hrd hmb))
     clear hb0 hrd
     rcases hspec with ⟨hr0, hl0⟩ | ⟨p, hpm, hr0, hl0⟩
     ·rw [hr0] at hlk
      simp only [Option.getD_none, Option.isSome_none] at hlk
      rw [hl0, Option.getD_none] at hmb
      have hrdc := volread_any v d L B c br sr wr HR2.out.2.2.2.1 HR2.out.2.1 (by omega) (by omega) (by have := HM.out.2.2.2.2.2.2.2.1; have := HR2.out.2.2.2.2.1.n; omega) i hlt2
      rw [HI.out.2.1] at hrdc
      have HMB := Lib.hid hmb
      clear hr0 hl0 hmb
      go_wp2_with fail
      refine hrdc.mono ?_
      rintro e wx ⟨gx, cx, rfl, hOx, hlx, hbx⟩
      clear hrdc hlk
      have HX := Lib.hid (And.intro (HR2.out.2.1.below hbx) (And.intro (VolB.cells (Blk.below HR2.out.2.2.2.1 hbx)) (And.intro hOx.at_ (And.intro hlx (And.intro (show 256 ≤ cx ∧ cx ≤ maxLen from ⟨hOx.rd.2.1, hOx.rd.2.2.1⟩) (HR2.out.2.2.1.trans (Turn.of_below [d, L] hbx) (fun x hx => .inl hx)))))))
      clear hOx hlx hbx
      go_wp2_with fail
      obtain ⟨qb, hqb⟩ : ∃ qb, i0 + i = qb := ⟨_, rfl⟩
      have hsd : ∀ W, Calls Tryz.prog 61 #[.int .i64 (B : Int), .int .i64 ((c : Int) + 1), .int .i64 (i : Int)] W fun e w' => e = .returned (.int .i64 (qb : Int)) ∧ W = w' := fun W => by
       have := side_any B (c + 1) i (by omega) (by omega) (by omega) W
       rw [HM.out.2.2.2.2.2.2.1, hqb] at this
       exact this
      have hqn : qb < sr.n := by have := HM.out.2.2.2.2.2.2.2.2.1; have := HM.out.2.2.2.2.2.2.1; have := HR2.out.2.2.2.2.1.n; omega
      obtain ⟨wok, sw, hwr⟩ : ∃ wok sw, sr.wrote qb b0 = (wok, sw) := ⟨_, _, rfl⟩
      have hwo : ∀ W, DkAt W d L sr → At W gx 0 b0 → Calls Tryz.prog 59 #[.pointer (some ⟨d, 0, none⟩), .int .i64 (qb : Int), .slice (some ⟨gx, 0, none⟩) 256 cx] W fun e w' => e = .returned (.bool wok) ∧ DkAt w' d L sw ∧ Turn [d, L] W w' := fun W hDW hAW => by
       have := wrote_any d L sr W (k + i) hDW HR2.out.2.2.2.2.2.1 (by omega) qb hqn gx 0 cx b0 hAW HX.out.2.2.2.1 HX.out.2.2.2.2.1
       rw [hwr] at this
       exact this
      have HS := Lib.hid (And.intro hsd (And.intro hwo (And.intro hwr hqb)))
      have g1 : IntKind.i64.wrap ((c : Int) + 1) = (c : Int) + 1 := IntWalk.i64_in _ (by omega)
      have HV0 := Lib.hid HX.out.2.1.1
      have HV1 := Lib.hid HX.out.2.1.2.1
      have HV2 := Lib.hid HX.out.2.1.2.2.1
      clear hsd hwo hwr hqb hqn
      refine region_turnV [d, L] (by kernel_rfl) (fun wd hOd hHeld hSz => ?_)
      have HSz := Lib.hid hSz
      clear hSz
      refine tkS 0 hHeld ?_
      refine tkS 1 hHeld ?_
      refine tkS 2 hHeld ?_
      refine tkS 3 hHeld ?_ (hy := by intro wq hSw; have zz := cell_turn HV0.out hSw HV.out.2.2.2.2.2.2.2; clear hSw; go_simp; try with_reducible rfl)
      refine tkS 4 hHeld ?_
      refine tkS 5 hHeld ?_
      refine tkS 6 hHeld ?_
      refine tkS 7 hHeld ?_ (hy := by intro wq hSw; have zz := cell_turn HV1.out hSw HV.out.2.2.2.2.2.2.2; clear hSw; go_simp; try with_reducible rfl)
      refine tkS 8 hHeld ?_
      refine tkS 9 hHeld ?_
      refine tkS 10 hHeld ?_
      refine tkS 11 hHeld ?_ (hy := by intro wq hSw; have zz := cell_turn HV2.out hSw HV.out.2.2.2.2.2.2.2; clear hSw; go_simp; try with_reducible rfl)
      refine tkS 12 hHeld ?_
      refine tkS 13 hHeld ?_
      refine tkS 15 hHeld ?_
      refine rdL 14 (fun K hK => ?_)
      go_simp
      refine (HS.out.1 _).mono ?_
      rintro e w' ⟨rfl, rfl⟩
      refine hK.out _ _ (by repeat (first | exact hHeld | exact Old.refl _ | assumption | refine Old.drew ?_ | refine Old.drewN ?_ _ | refine Old.alloc ?_ _)) (fun hHeld => ?_)
      clear hK K
      try simp only [Act.put, sA, sB, sC]
      refine rdL 16 (fun K hK => ?_)
      go_simp
      refine (HS.out.2.1 _ (HX.out.1.below hOd) (HX.out.2.2.1.keep hOd.size (hOd.block _ HX.out.2.2.1.1))).mono ?_
      rintro e w5 ⟨rfl, hD5, hT5⟩
      have hT5' := hHeld.trans hT5 (fun x hx => .inl hx)
      refine hK.out _ _ hT5' (fun hHeld => ?_)
      clear hK K
      try simp only [Act.put, sA, sB, sC]
      refine tkS 17 hHeld ?_
      refine wpAnyH_done (by kernel_rfl) ?_ _
      refine NoPanic.normal ?_
      try simp only [Exit.then]
      have H5 := Lib.hid (And.intro hD5 (And.intro hT5 hHeld))
      clear hD5 hT5 hHeld hOd
      cases wok with
      | false =>
       have hst := row_stop HR2.out.1 HMB.out (by rw [HS.out.2.2.2]; exact HS.out.2.2.1)
       have hq := HQ.out
       rw [hst, if_pos rfl] at hq
       subst hq
       go_wp2_with fail
       go_ret
       exact ⟨rfl, H5.out.1, (Turn.of_below [d, L] HW.out.2.2.2.2).trans (HX.out.2.2.2.2.2.trans H5.out.2.2 (fun x hx => .inl hx)) (fun x hx => .inl hx)⟩
      | true =>
       go_wp2_with fail
       go_roundw
       case measure => simp [intOf]; omega
       exact ⟨i + 1, sw, by omega, by simp, by rw [row_step HR2.out.1 HMB.out, HS.out.2.2.2]; exact HS.out.2.2.1, H5.out.1, HX.out.2.2.2.2.2.trans H5.out.2.2 (fun x hx => .inl hx)⟩
     ·rw [hr0] at hlk
      simp only [Option.getD_some, Option.isSome_some] at hlk
      rw [hl0, Option.getD_some] at hmb
      obtain ⟨kp, hkp⟩ := List.getElem?_of_mem hpm
      have hrp := (HV.out.2.2.2.1.at_ kp p hkp).2.2
      have hneA := HV.out.2.2.2.2.1 p hpm
      have hl256 := (HV.out.2.2.2.2.2.1 p hpm).2.2
      obtain ⟨blk, A2, n2, c2, l2⟩ := p
      simp only at hlk hmb hrp hneA hl256
      obtain rfl : n2 = 256 := by have := hrp.1; omega
      obtain ⟨g2, o2, rfl, hat2⟩ := hrp.addr (by omega)
      have hr1 := (hrp.below HW.out.2.2.2.2).turn HR2.out.2.2.1 (fun ad had => hneA ad had)
      obtain ⟨g3, o3, he3, hat3⟩ := hr1.addr (by omega)
      injection he3 with he3
      injection he3 with hg3 ho3
      subst hg3 ho3
      have HX := Lib.hid (And.intro HR2.out.2.1 (And.intro (VolB.cells HR2.out.2.2.2.1) (And.intro hat3 (And.intro hl256 (And.intro (show 256 ≤ c2 ∧ c2 ≤ maxLen from ⟨hr1.2.1, hr1.2.2.1⟩) HR2.out.2.2.1)))))
      have HMB := Lib.hid hmb
      clear hr0 hl0 hmb hkp hrp hneA hl256 hat2 hr1 hat3 hpm
      obtain ⟨wx, hwx⟩ : ∃ wx, wx = wr := ⟨_, rfl⟩
      subst hwx
      go_wp2_with fail
      clear hlk
      obtain ⟨qb, hqb⟩ : ∃ qb, i0 + i = qb := ⟨_, rfl⟩
      have hsd : ∀ W, Calls Tryz.prog 61 #[.int .i64 (B : Int), .int .i64 ((c : Int) + 1), .int .i64 (i : Int)] W fun e w' => e = .returned (.int .i64 (qb : Int)) ∧ W = w' := fun W => by
       have := side_any B (c + 1) i (by omega) (by omega) (by omega) W
       rw [HM.out.2.2.2.2.2.2.1, hqb] at this
       exact this
      have hqn : qb < sr.n := by have := HM.out.2.2.2.2.2.2.2.2.1; have := HM.out.2.2.2.2.2.2.1; have := HR2.out.2.2.2.2.1.n; omega
      obtain ⟨wok, sw, hwr⟩ : ∃ wok sw, sr.wrote qb l2 = (wok, sw) := ⟨_, _, rfl⟩
      have hwo : ∀ W, DkAt W d L sr → At W g2 o2 l2 → Calls Tryz.prog 59 #[.pointer (some ⟨d, 0, none⟩), .int .i64 (qb : Int), .slice (some ⟨g2, o2, none⟩) 256 c2] W fun e w' => e = .returned (.bool wok) ∧ DkAt w' d L sw ∧ Turn [d, L] W w' := fun W hDW hAW => by
       have := wrote_any d L sr W (k + i) hDW HR2.out.2.2.2.2.2.1 (by omega) qb hqn g2 o2 c2 l2 hAW HX.out.2.2.2.1 HX.out.2.2.2.2.1
       rw [hwr] at this
       exact this
      have HS := Lib.hid (And.intro hsd (And.intro hwo (And.intro hwr hqb)))
      have g1 : IntKind.i64.wrap ((c : Int) + 1) = (c : Int) + 1 := IntWalk.i64_in _ (by omega)
      have HV0 := Lib.hid HX.out.2.1.1
      have HV1 := Lib.hid HX.out.2.1.2.1
      have HV2 := Lib.hid HX.out.2.1.2.2.1
      clear hsd hwo hwr hqb hqn
      refine region_turnV [d, L] (by kernel_rfl) (fun wd hOd hHeld hSz => ?_)
      have HSz := Lib.hid hSz
      clear hSz
      refine tkS 0 hHeld ?_
      refine tkS 1 hHeld ?_
      refine tkS 2 hHeld ?_
      refine tkS 3 hHeld ?_ (hy := by intro wq hSw; have zz := cell_turn HV0.out hSw HV.out.2.2.2.2.2.2.2; clear hSw; go_simp; try with_reducible rfl)
      refine tkS 4 hHeld ?_
      refine tkS 5 hHeld ?_
      refine tkS 6 hHeld ?_
      refine tkS 7 hHeld ?_ (hy := by intro wq hSw; have zz := cell_turn HV1.out hSw HV.out.2.2.2.2.2.2.2; clear hSw; go_simp; try with_reducible rfl)
      refine tkS 8 hHeld ?_
      refine tkS 9 hHeld ?_
      refine tkS 10 hHeld ?_
      refine tkS 11 hHeld ?_ (hy := by intro wq hSw; have zz := cell_turn HV2.out hSw HV.out.2.2.2.2.2.2.2; clear hSw; go_simp; try with_reducible rfl)
      refine tkS 12 hHeld ?_
      refine tkS 13 hHeld ?_
      refine tkS 15 hHeld ?_
      refine rdL 14 (fun K hK => ?_)
      go_simp
      refine (HS.out.1 _).mono ?_
      rintro e w' ⟨rfl, rfl⟩
      refine hK.out _ _ (by repeat (first | exact hHeld | exact Old.refl _ | assumption | refine Old.drew ?_ | refine Old.drewN ?_ _ | refine Old.alloc ?_ _)) (fun hHeld => ?_)
      clear hK K
      try simp only [Act.put, sA, sB, sC]
      refine rdL 16 (fun K hK => ?_)
      go_simp
      refine (HS.out.2.1 _ (HX.out.1.below hOd) (HX.out.2.2.1.keep hOd.size (hOd.block _ HX.out.2.2.1.1))).mono ?_
      rintro e w5 ⟨rfl, hD5, hT5⟩
      have hT5' := hHeld.trans hT5 (fun x hx => .inl hx)
      refine hK.out _ _ hT5' (fun hHeld => ?_)
      clear hK K
      try simp only [Act.put, sA, sB, sC]
      refine tkS 17 hHeld ?_
      refine wpAnyH_done (by kernel_rfl) ?_ _
      refine NoPanic.normal ?_
      try simp only [Exit.then]
      have H5 := Lib.hid (And.intro hD5 (And.intro hT5 hHeld))
      clear hD5 hT5 hHeld hOd
      cases wok with
      | false =>
       have hst := row_stop HR2.out.1 HMB.out (by rw [HS.out.2.2.2]; exact HS.out.2.2.1)
       have hq := HQ.out
       rw [hst, if_pos rfl] at hq
       subst hq
       go_wp2_with fail
       go_ret
       exact ⟨rfl, H5.out.1, (Turn.of_below [d, L] HW.out.2.2.2.2).trans (HX.out.2.2.2.2.2.trans H5.out.2.2 (fun x hx => .inl hx)) (fun x hx => .inl hx)⟩
      | true =>
       go_wp2_with fail
       go_roundw
       case measure => simp [intOf]; omega
       exact ⟨i + 1, sw, by omega, by simp, by rw [row_step HR2.out.1 HMB.out, HS.out.2.2.2]; exact HS.out.2.2.1, H5.out.1, HX.out.2.2.2.2.2.trans H5.out.2.2 (fun x hx => .inl hx)⟩
    ·obtain rfl : i = B := by omega
     have hlt2i : ¬ (i : Int) < i := by omega
     have hlt2d : decide ((i : Int) < (i : Int)) = false := decide_eq_false hlt2i
     have hrow := HR2.out.1
     rw [List.take_of_length_le (by rw [HM.out.2.1]; omega)] at hrow
     have hcs := VolB.cells HR2.out.2.2.2.1
     have g1 : IntKind.i64.wrap ((c : Int) + 1) = (c : Int) + 1 := IntWalk.i64_in _ (by omega)
     obtain ⟨r, hr⟩ : ∃ r, (c + 1) % 2 = r := ⟨_, rfl⟩
     have hcm : ((c : Int) + 1).tmod 2 = (r : Int) := by rw [Int.tmod_eq_emod_of_nonneg (by omega)]; omega
     have hr2 : r < 2 := by omega
     have hq := HQ.out
     rw [hrow, hr] at hq
     simp only [Bool.true_eq_false, if_false] at hq
     obtain ⟨ok1, s1, hs1⟩ : ∃ ok1 s1, sr.sy = (ok1, s1) := ⟨_, _, rfl⟩
     obtain ⟨ok2, s2, hs2⟩ : ∃ ok2 s2, s1.wr r (headB (c + 1)) = (ok2, s2) := ⟨_, _, rfl⟩
     obtain ⟨ok3, s3, hs3⟩ : ∃ ok3 s3, s2.sy = (ok3, s3) := ⟨_, _, rfl⟩
     have f0 := HR2.out.2.2.2.2.2.1
     have f1 := sy_fok f0
     have n1 := (sy_did sr).n
     rw [hs1] at f1 n1 hq
     simp only at f1 n1 hq
     have f2 := wr_fok f1 r (headB (c + 1))
     rw [hs2] at f2 hq
     simp only at f2 hq
     rw [hs3] at hq
     have hsy1 : ∀ W, DkAt W d L sr → Calls Tryz.prog 60 #[.pointer (some ⟨d, 0, none⟩)] W fun e w' => e = .returned (.bool ok1) ∧ DkAt w' d L s1 ∧ Turn [d, L] W w' := fun W hDW => by
      have := dksync_any d L sr W _ hDW f0 (by omega)
      rw [hs1] at this
      exact this
     have hsy2 : ∀ W, DkAt W d L s2 → Calls Tryz.prog 60 #[.pointer (some ⟨d, 0, none⟩)] W fun e w' => e = .returned (.bool ok3) ∧ DkAt w' d L s3 ∧ Turn [d, L] W w' := fun W hDW => by
      have := dksync_any d L s2 W _ hDW f2 (by omega)
      rw [hs3] at this
      exact this
     have hrn : r < s1.n := by have := HM.out.2.2.2.2.2.2.2.2.2.1; have := HR2.out.2.2.2.2.1.n; omega
     have hwr2 : ∀ W b off cc, DkAt W d L s1 → At W b off (headB (c + 1)) → Calls Tryz.prog 85 #[.pointer (some ⟨d, 0, none⟩), .int .i64 (r : Int), .slice (some ⟨b, off, none⟩) 256 cc] W fun e w' => e = .returned (.bool ok2) ∧ DkAt w' d L s2 ∧ Turn [d, L] W w' := fun W b off cc hDW hAW => by
      have := dkwrite_any d L s1 W _ hDW f1 (by omega) r hrn b off cc (headB (c + 1)) hAW (headB_len _)
      rw [hs2] at this
      exact this
     have hhd : ∀ W, KAt W → Calls Tryz.prog 62 #[.int .i64 ((c : Int) + 1)] W fun e w' => ∃ A n c', e = .returned (.slice A n c') ∧ Own w' W.heap.size (.slice A n c') (headB (c + 1)) ∧ Below W.heap.size W w' := fun W hKW => head_any_q (c + 1) (by omega) W hKW
     have HS := Lib.hid (And.intro hsy1 (And.intro hhd (And.intro hwr2 hsy2)))
     have HQ2 := Lib.hid hq
     have HV0 := Lib.hid hcs.1
     clear hq hs1 hs2 hs3 f0 f1 f2 n1 hsy1 hsy2 hrn hwr2 hhd hr
     go_wp2_with fail
     clear hcs
     cases ok1 with
     | false =>
      have hq := HQ2.out
      rw [if_pos rfl] at hq
      subst hq
      refine region_turnV [d, L] (by kernel_rfl) (fun wd hOd hHeld hSz => ?_)
      have HSz := Lib.hid hSz
      clear hSz
      refine tkS 0 hHeld ?_
      refine tkS 1 hHeld ?_
      refine tkS 2 hHeld ?_
      refine tkS 3 hHeld ?_ (hy := by intro wq hSw; have zz := cell_turn HV0.out hSw HV.out.2.2.2.2.2.2.2; clear hSw; go_simp; try with_reducible rfl)
      refine rdL 4 (fun K hK => ?_)
      go_simp
      refine (HS.out.1 _ (HR2.out.2.1.below hOd)).mono ?_
      rintro e w5 ⟨rfl, hD5, hT5⟩
      have hT5' := hHeld.trans hT5 (fun x hx => .inl hx)
      clear hT5
      refine hK.out _ _ hT5' (fun hHeld => ?_)
      clear hK K
      try simp only [Act.put, sA, sB, sC]
      refine tkS 5 hHeld ?_
      refine takeL (i := 6) (v := undef) rfl (by kernel_rfl) (by kernel_rfl) (by kernel_rfl) (fun _ _ _ h => h) (Or.inr ⟨by rfl, rfl⟩) hHeld ?_
      try simp only [Act.put, sA, sB, sC]
      refine takeL (i := 7) (v := undef) rfl (by kernel_rfl) (by kernel_rfl) (by kernel_rfl) (fun _ _ _ h => h) (Or.inr ⟨by rfl, rfl⟩) hHeld ?_
      try simp only [Act.put, sA, sB, sC]
      refine takeL (i := 8) (v := undef) rfl (by kernel_rfl) (by kernel_rfl) (by kernel_rfl) (fun _ _ _ h => h) (Or.inr ⟨by rfl, rfl⟩) hHeld ?_
      try simp only [Act.put, sA, sB, sC]
      refine takeL (i := 9) (v := undef) rfl (by kernel_rfl) (by kernel_rfl) (by kernel_rfl) (fun _ _ _ h => h) (Or.inr ⟨by rfl, rfl⟩) hHeld ?_
      try simp only [Act.put, sA, sB, sC]
      refine takeL (i := 10) (v := undef) rfl (by kernel_rfl) (by kernel_rfl) (by kernel_rfl) (fun _ _ _ h => h) (Or.inr ⟨by rfl, rfl⟩) hHeld ?_
      try simp only [Act.put, sA, sB, sC]
      refine takeL (i := 11) (v := undef) rfl (by kernel_rfl) (by kernel_rfl) (by kernel_rfl) (fun _ _ _ h => h) (Or.inr ⟨by rfl, rfl⟩) hHeld ?_
      try simp only [Act.put, sA, sB, sC]
      refine takeL (i := 12) (v := undef) rfl (by kernel_rfl) (by kernel_rfl) (by kernel_rfl) (fun _ _ _ h => h) (Or.inr ⟨by rfl, rfl⟩) hHeld ?_
      try simp only [Act.put, sA, sB, sC]
      refine takeL (i := 13) (v := undef) rfl (by kernel_rfl) (by kernel_rfl) (by kernel_rfl) (fun _ _ _ h => h) (Or.inr ⟨by rfl, rfl⟩) hHeld ?_
      try simp only [Act.put, sA, sB, sC]
      refine takeL (i := 14) (v := undef) rfl (by kernel_rfl) (by kernel_rfl) (by kernel_rfl) (fun _ _ _ h => h) (Or.inr ⟨by rfl, rfl⟩) hHeld ?_
      try simp only [Act.put, sA, sB, sC]
      refine tkS 15 hHeld ?_
      refine tkS 16 hHeld ?_
      refine takeL (i := 17) (v := undef) rfl (by kernel_rfl) (by kernel_rfl) (by kernel_rfl) (fun _ _ _ h => h) (Or.inr ⟨by rfl, rfl⟩) hHeld ?_
      try simp only [Act.put, sA, sB, sC]
      refine takeL (i := 18) (v := undef) rfl (by kernel_rfl) (by kernel_rfl) (by kernel_rfl) (fun _ _ _ h => h) (Or.inr ⟨by rfl, rfl⟩) hHeld ?_
      try simp only [Act.put, sA, sB, sC]
      refine takeL (i := 19) (v := undef) rfl (by kernel_rfl) (by kernel_rfl) (by kernel_rfl) (fun _ _ _ h => h) (Or.inr ⟨by rfl, rfl⟩) hHeld ?_
      try simp only [Act.put, sA, sB, sC]
      refine takeL (i := 20) (v := undef) rfl (by kernel_rfl) (by kernel_rfl) (by kernel_rfl) (fun _ _ _ h => h) (Or.inr ⟨by rfl, rfl⟩) hHeld ?_
      try simp only [Act.put, sA, sB, sC]
      refine takeL (i := 21) (v := undef) rfl (by kernel_rfl) (by kernel_rfl) (by kernel_rfl) (fun _ _ _ h => h) (Or.inr ⟨by rfl, rfl⟩) hHeld ?_
      try simp only [Act.put, sA, sB, sC]
      refine tkS 22 hHeld ?_
      refine tkS 23 hHeld ?_
      refine wpAnyH_done (by kernel_rfl) ?_ _
      refine NoPanic.normal ?_
      try simp only [Exit.then]
      go_wp2_with fail
      go_ret
      exact ⟨rfl, hD5, (Turn.of_below [d, L] HW.out.2.2.2.2).trans (HR2.out.2.2.1.trans hHeld (fun x hx => .inl hx)) (fun x hx => .inl hx)⟩
     | true =>
      have hq := HQ2.out
      simp only [Bool.true_eq_false, if_false] at hq
      cases ok2 with
      | false =>
       rw [if_pos rfl] at hq
       subst hq
       refine region_turnV [d, L] (by kernel_rfl) (fun wd hOd hHeld hSz => ?_)
       have HSz := Lib.hid hSz
       clear hSz
       refine tkS 0 hHeld ?_
       refine tkS 1 hHeld ?_
       refine tkS 2 hHeld ?_
       refine tkS 3 hHeld ?_ (hy := by intro wq hSw; have zz := cell_turn HV0.out hSw HV.out.2.2.2.2.2.2.2; clear hSw; go_simp; try with_reducible rfl)
       refine rdL 4 (fun K hK => ?_)
       go_simp
       refine (HS.out.1 _ (HR2.out.2.1.below hOd)).mono ?_
       rintro e w5 ⟨rfl, hD5, hT5⟩
       have hT5' := hHeld.trans hT5 (fun x hx => .inl hx)
       clear hT5
       refine hK.out _ _ hT5' (fun hHeld => ?_)
       clear hK K
       try simp only [Act.put, sA, sB, sC]
       refine tkS 5 hHeld ?_
       refine tkS 6 hHeld ?_
       refine tkS 7 hHeld ?_
       refine tkS 8 hHeld ?_
       refine tkS 9 hHeld ?_ (hy := by intro wq hSw; have zz := cell_turn HV0.out hSw HV.out.2.2.2.2.2.2.2; clear hSw; go_simp; try with_reducible rfl)
       refine tkS 10 hHeld ?_
       refine tkS 11 hHeld ?_
       refine tkS 12 hHeld ?_
       refine rdL 13 (fun K hK => ?_)
       go_simp
       have hK5 : KAt w5 := (KAt.beside HW.out.2.2.2.1 HW.out.2.2.1 HR2.out.2.2.1).beside HR2.out.2.1 hHeld
       refine (HS.out.2.1 w5 hK5).mono ?_
       rintro e w6 ⟨A6, n6, c6, rfl, hO6, hb6⟩
       obtain rfl : n6 = 256 := by have := hO6.len; rw [headB_len] at this; exact this
       obtain ⟨b6, off6, rfl, hat6⟩ := hO6.rd.addr (by omega)
       have hT6' := hHeld.trans (Turn.of_below [d, L] hb6) (fun x hx => .inl hx)
       refine hK.out _ _ hT6' (fun hHeld => ?_)
       clear hK K
       try simp only [Act.put, sA, sB, sC]
       refine rdL 14 (fun K hK => ?_)
       go_simp
       refine (HS.out.2.2.1 _ b6 off6 c6 (hD5.below hb6) hat6).mono ?_
       rintro e w7 ⟨rfl, hD7, hT7⟩
       have hT7' := hHeld.trans hT7 (fun x hx => .inl hx)
       clear hT7
       refine hK.out _ _ hT7' (fun hHeld => ?_)
       clear hK K
       try simp only [Act.put, sA, sB, sC]
       refine tkS 15 hHeld ?_
       refine tkS 16 hHeld ?_
       refine takeL (i := 17) (v := undef) rfl (by kernel_rfl) (by kernel_rfl) (by kernel_rfl) (fun _ _ _ h => h) (Or.inr ⟨by rfl, rfl⟩) hHeld ?_
       try simp only [Act.put, sA, sB, sC]
       refine takeL (i := 18) (v := undef) rfl (by kernel_rfl) (by kernel_rfl) (by kernel_rfl) (fun _ _ _ h => h) (Or.inr ⟨by rfl, rfl⟩) hHeld ?_
       try simp only [Act.put, sA, sB, sC]
       refine takeL (i := 19) (v := undef) rfl (by kernel_rfl) (by kernel_rfl) (by kernel_rfl) (fun _ _ _ h => h) (Or.inr ⟨by rfl, rfl⟩) hHeld ?_
       try simp only [Act.put, sA, sB, sC]
       refine takeL (i := 20) (v := undef) rfl (by kernel_rfl) (by kernel_rfl) (by kernel_rfl) (fun _ _ _ h => h) (Or.inr ⟨by rfl, rfl⟩) hHeld ?_
       try simp only [Act.put, sA, sB, sC]
       refine takeL (i := 21) (v := undef) rfl (by kernel_rfl) (by kernel_rfl) (by kernel_rfl) (fun _ _ _ h => h) (Or.inr ⟨by rfl, rfl⟩) hHeld ?_
       try simp only [Act.put, sA, sB, sC]
       refine tkS 22 hHeld ?_
       refine tkS 23 hHeld ?_
       refine wpAnyH_done (by kernel_rfl) ?_ _
       refine NoPanic.normal ?_
       try simp only [Exit.then]
       go_wp2_with fail
       go_ret
       exact ⟨rfl, hD7, (Turn.of_below [d, L] HW.out.2.2.2.2).trans (HR2.out.2.2.1.trans hHeld (fun x hx => .inl hx)) (fun x hx => .inl hx)⟩
      | true =>
       simp only [Bool.true_eq_false, if_false] at hq
       subst hq
       refine region_turnV [d, L] (by kernel_rfl) (fun wd hOd hHeld hSz => ?_)
       have HSz := Lib.hid hSz
       clear hSz
       refine tkS 0 hHeld ?_
       refine tkS 1 hHeld ?_
       refine tkS 2 hHeld ?_
       refine tkS 3 hHeld ?_ (hy := by intro wq hSw; have zz := cell_turn HV0.out hSw HV.out.2.2.2.2.2.2.2; clear hSw; go_simp; try with_reducible rfl)
       refine rdL 4 (fun K hK => ?_)
       go_simp
       refine (HS.out.1 _ (HR2.out.2.1.below hOd)).mono ?_
       rintro e w5 ⟨rfl, hD5, hT5⟩
       have hT5' := hHeld.trans hT5 (fun x hx => .inl hx)
       clear hT5
       refine hK.out _ _ hT5' (fun hHeld => ?_)
       clear hK K
       try simp only [Act.put, sA, sB, sC]
       refine tkS 5 hHeld ?_
       refine tkS 6 hHeld ?_
       refine tkS 7 hHeld ?_
       refine tkS 8 hHeld ?_
       refine tkS 9 hHeld ?_ (hy := by intro wq hSw; have zz := cell_turn HV0.out hSw HV.out.2.2.2.2.2.2.2; clear hSw; go_simp; try with_reducible rfl)
       refine tkS 10 hHeld ?_
       refine tkS 11 hHeld ?_
       refine tkS 12 hHeld ?_
       refine rdL 13 (fun K hK => ?_)
       go_simp
       have hK5 : KAt w5 := (KAt.beside HW.out.2.2.2.1 HW.out.2.2.1 HR2.out.2.2.1).beside HR2.out.2.1 hHeld
       refine (HS.out.2.1 w5 hK5).mono ?_
       rintro e w6 ⟨A6, n6, c6, rfl, hO6, hb6⟩
       obtain rfl : n6 = 256 := by have := hO6.len; rw [headB_len] at this; exact this
       obtain ⟨b6, off6, rfl, hat6⟩ := hO6.rd.addr (by omega)
       have hT6' := hHeld.trans (Turn.of_below [d, L] hb6) (fun x hx => .inl hx)
       refine hK.out _ _ hT6' (fun hHeld => ?_)
       clear hK K
       try simp only [Act.put, sA, sB, sC]
       refine rdL 14 (fun K hK => ?_)
       go_simp
       refine (HS.out.2.2.1 _ b6 off6 c6 (hD5.below hb6) hat6).mono ?_
       rintro e w7 ⟨rfl, hD7, hT7⟩
       have hT7' := hHeld.trans hT7 (fun x hx => .inl hx)
       clear hT7
       refine hK.out _ _ hT7' (fun hHeld => ?_)
       clear hK K
       try simp only [Act.put, sA, sB, sC]
       refine tkS 15 hHeld ?_
       refine tkS 16 hHeld ?_
       refine tkS 17 hHeld ?_
       refine tkS 18 hHeld ?_
       refine tkS 19 hHeld ?_
       refine tkS 20 hHeld ?_ (hy := by intro wq hSw; have zz := cell_turn HV0.out hSw HV.out.2.2.2.2.2.2.2; clear hSw; go_simp; try with_reducible rfl)
       refine rdL 21 (fun K hK => ?_)
       go_simp
       refine (HS.out.2.2.2 _ hD7).mono ?_
       rintro e w8 ⟨rfl, hD8, hT8⟩
       have hT8' := hHeld.trans hT8 (fun x hx => .inl hx)
       clear hT8
       refine hK.out _ _ hT8' (fun hHeld => ?_)
       clear hK K
       try simp only [Act.put, sA, sB, sC]
       refine tkS 22 hHeld ?_
       refine tkS 23 hHeld ?_
       refine wpAnyH_done (by kernel_rfl) ?_ _
       refine NoPanic.normal ?_
       try simp only [Exit.then]
       go_wp2_with fail
       go_ret
       exact ⟨rfl, hD8, (Turn.of_below [d, L] HW.out.2.2.2.2).trans (HR2.out.2.2.1.trans hHeld (fun x hx => .inl hx)) (fun x hx => .inl hx)⟩
theorem may_empty (v d B cm : Nat) (br : Bool) (A : Option Addr) (c : Nat) (w : World) (h : VolB w v d B cm br) (hB : B ≤ 1000) :
  Calls Tryz.prog 64 #[.pointer (some ⟨v, 0, none⟩), .slice A 0 c] w fun e w' => e = .returned (.bool true) ∧ w = w' := by
 have t1 : ¬ (B : Int) < 0 := by omega
 have t2 : decide ((B : Int) < 0) = false := decide_eq_false t1
 obtain ⟨c0, c1, c2, c3⟩ := h.cells
 clear h
 go_enter Tryz.func64, Tryz.ntmps64
 go_wp2_with fail
 clear c0 c1 c2 c3 t1 t2
 obtain ⟨w0, hw0⟩ : ∃ w0, w0 = w := ⟨_, rfl⟩
 subst hw0
 go_loopw [20] (fun i wr => i = .int .i64 0 ∧ w0 = wr) (fun i _ => 0)
 case atStart => exact ⟨rfl, rfl⟩
 case round =>
  obtain ⟨rfl, rfl⟩ := hrel
  go_wp2_with fail
  go_ret
  exact ⟨rfl, rfl⟩
theorem commit_many (v d B cm : Nat) (br : Bool) (A : Option Addr) (n c : Nat) (w : World) (h : VolB w v d B cm br) (hn : B < n) :
  Calls Tryz.prog 34 #[.pointer (some ⟨v, 0, none⟩), .slice A n c] w fun e w' => e = .returned (.int .i64 7) ∧ w = w' := by
 have h1 := may_many v d B cm br A n c w h hn
 go_enter Tryz.func34, Tryz.ntmps34
 go_wp2_with fail
 refine h1.mono ?_
 rintro e w' ⟨rfl, rfl⟩
 go_wp2_with fail
 go_ret
 exact ⟨rfl, rfl⟩
theorem commit_empty (v d B cm : Nat) (br : Bool) (A : Option Addr) (c : Nat) (w : World) (h : VolB w v d B cm br) (hB : B ≤ 1000) :
  Calls Tryz.prog 34 #[.pointer (some ⟨v, 0, none⟩), .slice A 0 c] w fun e w' => e = .returned (.int .i64 0) ∧ w = w' := by
 have h1 := may_empty v d B cm br A c w h hB
 go_enter Tryz.func34, Tryz.ntmps34
 go_wp2_with fail
 refine h1.mono ?_
 rintro e w' ⟨rfl, rfl⟩
 go_wp2_with fail
 go_ret
 exact ⟨rfl, rfl⟩
theorem commit_bad (v d B cm : Nat) (br : Bool) (P c : Nat) (ps : List PutV) (w : World) (h : VolB w v d B cm br) (hP : PutsAt w P ps) (hB : B ≤ 1000) (hm : mayP B ps = false) :
  Calls Tryz.prog 34 #[.pointer (some ⟨v, 0, none⟩), .slice (some ⟨P, 0, none⟩) ps.length c] w fun e w' => e = .returned (.int .i64 7) ∧ Old w w' := by
 by_cases hn : ps.length ≤ B
 ·have h1 := may_any v d B cm br P c ps w h hP hn hB
  rw [hm] at h1
  go_enter Tryz.func34, Tryz.ntmps34
  go_wp2_with fail
  refine h1.mono ?_
  rintro e w' ⟨rfl, hO⟩
  go_wp2_with fail
  go_ret
  exact ⟨rfl, hO⟩
 ·refine (commit_many v d B cm br (some ⟨P, 0, none⟩) ps.length c w h (by omega)).mono ?_
  rintro e w' ⟨rfl, rfl⟩
  exact ⟨rfl, Old.refl _⟩
theorem commit_any (v d L B c k P cp : Nat) (ps : List PutV) (s : Dsk) (m : List (List UInt8)) (w : World) (hV : VolB w v d B c false) (hD : DkAt w d L s) (hK : KAt w) (hP : PutsAt w P ps)
  (hne : ∀ p ∈ ps, ∀ ad, p.A = some ad → ad.block ∉ [d, L]) (hm : mayP B ps = true) (hB : (s.n - 8) / 2 = B) (hn16 : 16 ≤ s.n) (hn2 : s.n ≤ 1000) (hc : c < 10000) (hf : FOk s k) (hk : k < 10000)
  (hml : m.length = B) (hside : ∀ i b, m[i]? = some b → Cl s (8 + c % 2 * B + i) b) (h0 : 0 < ps.length) :
  Calls Tryz.prog 34 #[.pointer (some ⟨v, 0, none⟩), .slice (some ⟨P, 0, none⟩) ps.length cp] w fun e w' =>
   e = .returned (.int .i64 (if (s.turnW headB c (after m (ps.map toPut))).1 = true then 0 else 48)) ∧ DkAt w' d L (s.turnW headB c (after m (ps.map toPut))).2 ∧
   VolB w' v d B (if (s.turnW headB c (after m (ps.map toPut))).1 = true then c + 1 else c) (!(s.turnW headB c (after m (ps.map toPut))).1) ∧ Turn [d, L, v] w w' := by
 have hnB : ps.length ≤ B := by
  unfold mayP at hm
  rw [Bool.and_eq_true, decide_eq_true_iff] at hm
  exact hm.1
 have h1 := may_any v d B c false P cp ps w hV hP hnB (by omega)
 rw [hm] at h1
 have hvd : v ∉ [d, L] := by
  obtain ⟨⟨cs, h1⟩, cs2, h2⟩ := hD.typed
  simp
  exact ⟨Blk.ne_ hV h1 (by decide), Blk.ne_ hV h2 (by decide)⟩
 have h2 : ∀ W, Old w W → Calls Tryz.prog 65 #[.pointer (some ⟨v, 0, none⟩), .slice (some ⟨P, 0, none⟩) ps.length cp] W fun e w' =>
   e = .returned (.bool (s.turnW headB c (after m (ps.map toPut))).1) ∧ DkAt w' d L (s.turnW headB c (after m (ps.map toPut))).2 ∧ Turn [d, L] W w' := fun W hO =>
  fsturn_any v d L B c k P cp false ps s m W (Blk.below hV hO) (hD.below hO) (hK.below hO) (hP.below hO) hne hm hB hn16 hn2 hc hf hk hml hside
 obtain ⟨q, hq⟩ : ∃ q, s.turnW headB c (after m (ps.map toPut)) = q := ⟨_, rfl⟩
 rw [hq] at h2 ⊢
 obtain ⟨N, hN⟩ : ∃ N, ps.length = N := ⟨_, rfl⟩
 rw [hN] at h1 h2 h0 ⊢
 have hN0 : ((N : Int) == 0) = false := by simp; omega
 have hN1 : ¬ (N : Int) = 0 := by omega
 obtain ⟨ok, sq⟩ := q
 simp only at h2 ⊢
 have H := Lib.hid (And.intro h2 (And.intro hV hvd))
 clear h2 hV hD hK hP hne hm hB hn16 hn2 hf hml hside hq hN hvd hnB
 go_enter Tryz.func34, Tryz.ntmps34
 go_wp2_with fail
 refine h1.mono ?_
 rintro e w1 ⟨rfl, hO⟩
 have hcs := VolB.cells (Blk.below H.out.2.1 hO)
 clear h1
 go_wp2_with fail
 refine (H.out.1 w1 hO).mono ?_
 rintro e w2 ⟨rfl, hD2, hT2⟩
 have hV2 : VolB w2 v d B c false := (Blk.below H.out.2.1 hO).turn hT2 H.out.2.2
 have hcs2 := VolB.cells hV2
 have hf2 := fun j => Blk.frozen hV2 j
 have HE := Lib.hid (And.intro hD2 (And.intro ((Turn.of_below [d, L] hO).trans hT2 (fun x hx => .inl hx)) hV2))
 clear hcs hD2 hT2 hV2
 have fin : ∀ (z : Value) (j : Nat), Turn [d, L, v] w (w2.setCell ⟨v, j, none⟩ z) ∧ DkAt (w2.setCell ⟨v, j, none⟩ z) d L sq := fun z j => by
  have ht : Turn [v] w2 (w2.setCell ⟨v, j, none⟩ z) := (Turn.refl _ _).setCell (.inl (by simp)) _
  obtain ⟨⟨cs, b1⟩, cs2, b2⟩ := HE.out.1.typed
  refine ⟨(HE.out.2.1.more (by simp)).trans (ht.more (S' := [d, L, v]) (by simp)) (fun x hx => .inl hx), HE.out.1.turn' ht (by simp; exact fun e => H.out.2.2 (by simp [e])) (by simp; exact fun e => H.out.2.2 (by simp [e])) (fun t h => by simp at h; subst h; exact Blk.noRow HE.out.2.2 (by decide))⟩
 have HF := Lib.hid fin
 clear fin
 cases ok with
 | false =>
  go_wp2_with fail
  go_ret
  refine ⟨rfl, (HF.out _ 3).2, ?_, (HF.out _ 3).1⟩
  have := Blk.set_ HE.out.2.2 3 (.bool true)
  simpa [VolB] using this
 | true =>
  have g1 : IntKind.i64.wrap ((c : Int) + 1) = (c : Int) + 1 := IntWalk.i64_in _ (by omega)
  go_wp2_with fail
  go_ret
  refine ⟨rfl, (HF.out _ 2).2, ?_, (HF.out _ 2).1⟩
  have := Blk.set_ HE.out.2.2 2 (.int .i64 ((c : Int) + 1))
  simpa [VolB] using this
def ZeroD (s : Dsk) : Prop := ∀ i, i < s.n → Cl s i (zs 256)
theorem zeroD_new (n : Nat) : ZeroD (Dsk.new n) := by
 intro i hi
 have hi' : i < n := by unfold Dsk.n Dsk.new at hi; simpa using hi
 unfold Cl Dsk.rd Dsk.srd Dsk.new
 simp [hi', Sec.read, Sec.sread]
theorem new_n (n : Nat) : (Dsk.new n).n = n := by unfold Dsk.n Dsk.new; simp
theorem new_fok (n : Nat) : FOk (Dsk.new n) 0 := ⟨fun h => (nomatch h), (show (0 : Int) ≤ 1000 by decide), Nat.le_refl _⟩
theorem good_fmt {s : Dsk} (h16 : 16 ≤ s.n) (h60 : s.n ≤ 1000) (h0 : Cl s 0 (headB 0)) (hz : ∀ j, j < s.n → j ≠ 0 → Cl s j (zs 256)) : Good headB s 0 (List.replicate ((s.n - 8) / 2) (zs 256)) := by
 refine ⟨h16, h60, List.length_replicate, h0, ⟨zs 256, hz 1 (by omega) (by omega), .inl rfl⟩, fun i b hi => ?_⟩
 rw [List.getElem?_replicate] at hi
 split at hi
 ·injection hi with hi
  subst hi
  exact hz _ (by omega) (by omega)
 ·cases hi
theorem fmt_cases {s s' : Dsk} {ok : Bool} (hz : ZeroD s) (h16 : 16 ≤ s.n) (h60 : s.n ≤ 1000) (h : s.fmt = (ok, s')) :
  s'.n = s.n ∧ (ok = true → Good headB s' 0 (List.replicate ((s.n - 8) / 2) (zs 256))) ∧
  (ok = false → ∀ kp, ZeroD (s'.crash kp) ∨ Good headB (s'.crash kp) 0 (List.replicate ((s.n - 8) / 2) (zs 256))) ∧
  (s.fused = false → s.dead = false → ok = true ∧ s'.dead = false ∧ s'.fused = false) := by
 have zc : ∀ t : Dsk, ZeroD t → ∀ kp, ZeroD (t.crash kp) := fun t ht kp i hi => crash_cl (ht i (by rwa [crash_n] at hi)) kp
 have zy : ∀ t : Dsk, ZeroD t → ZeroD t.sy.2 := fun t ht i hi => sy_cl (ht i (by rwa [(sy_did t).n] at hi))
 unfold Dsk.fmt at h
 have d1 := sy_did s
 have z1 := zy s hz
 obtain ⟨o1, s1, e1⟩ : ∃ o1 s1, s.sy = (o1, s1) := ⟨_, _, rfl⟩
 rw [e1] at h d1 z1
 simp only at h d1 z1
 cases o1 with
 | false =>
  rw [if_pos rfl] at h
  injection h with ha hb
  subst ha hb
  exact ⟨d1.n, (fun h => by cases h), fun _ kp => .inl (zc _ z1 kp), fun h1 h2 => by have := (d1.alive h1 h2).2; cases this⟩
 | true =>
 simp only [Bool.true_eq_false, if_false] at h
 have d2 := d1.trans (sy_did s1)
 have z2 := zy s1 z1
 obtain ⟨o2, s2, e2⟩ : ∃ o2 s2, s1.sy = (o2, s2) := ⟨_, _, rfl⟩
 rw [e2] at h d2 z2
 simp only at h d2 z2
 cases o2 with
 | false =>
  rw [if_pos rfl] at h
  injection h with ha hb
  subst ha hb
  exact ⟨d2.n, (fun h => by cases h), fun _ kp => .inl (zc _ z2 kp), fun h1 h2 => by have := (d2.alive h1 h2).2; cases this⟩
 | true =>
 simp only [Bool.true_eq_false, if_false] at h
 have hn2 := d2.n
 have d3 := d2.trans (wr_did s2 0 (headB 0))
 have c3 : ∀ j, j < s2.n → j ≠ 0 → Cl (s2.wr 0 (headB 0)).2 j (zs 256) := fun j hj hj0 => wr_cl (z2 j hj) (by omega) (by omega)
 have r3 := wr_rd (s := s2) (i := 0) (j := 0) (l := headB 0) (by omega)
 have y3 := wr_srd (s := s2) (i := 0) (j := 0) (l := headB 0)
 have n3 : (s2.wr 0 (headB 0)).1 = false → ZeroD (s2.wr 0 (headB 0)).2 := fun hf => by
  unfold Dsk.wr at hf ⊢
  split
  ·exact z2
  ·rename_i hd; rw [if_neg hd] at hf; cases hf
 obtain ⟨o3, s3, e3⟩ : ∃ o3 s3, s2.wr 0 (headB 0) = (o3, s3) := ⟨_, _, rfl⟩
 rw [e3] at h d3 c3 r3 y3 n3
 simp only at h d3 c3 r3 y3 n3
 cases o3 with
 | false =>
  rw [if_pos rfl] at h
  injection h with ha hb
  subst ha hb
  exact ⟨d3.n, (fun h => by cases h), fun _ kp => .inl (zc _ (n3 rfl) kp), fun h1 h2 => by have := (d3.alive h1 h2).2; cases this⟩
 | true =>
 simp only [Bool.true_eq_false, if_false] at h
 have r3' := r3 rfl
 simp only [if_true] at r3'
 rw [(z2 0 (by omega)).2] at y3
 have d4 := d3.trans (sy_did s3)
 have hn3 := d3.n
 have c4 : ∀ j, j < s2.n → j ≠ 0 → Cl s3.sy.2 j (zs 256) := fun j hj hj0 => sy_cl (c3 j hj hj0)
 have h4 := fun hok => sy_cl_of (s := s3) (j := 0) r3' hok
 have q4 : s3.sy.1 = false → s3.sy.2 = s3 := fun hf => by
  unfold Dsk.sy at hf ⊢
  split
  ·rfl
  ·rename_i hd; rw [if_neg hd] at hf; cases hf
 rw [h] at d4 c4 h4 q4
 simp only at d4 c4 h4 q4
 refine ⟨d4.n, fun hok => ?_, fun hok kp => ?_, fun h1 h2 => ?_⟩
 ·rw [← d4.n]
  exact good_fmt (by rw [d4.n]; omega) (by rw [d4.n]; omega) (h4 hok) (fun j hj hj0 => c4 j (by rw [d4.n] at hj; omega) hj0)
 ·rw [q4 hok] at c4 ⊢
  obtain ⟨l, hl, hl2 | hl2⟩ := crash_rd s3 kp 0
  ·right
   rw [r3'] at hl2
   rw [hl2] at hl
   have hnn : (s3.crash kp).n = s.n := by rw [crash_n, hn3]
   rw [← hnn]
   exact good_fmt (by omega) (by omega) hl (fun j hj hj0 => crash_cl (c4 j (by omega) hj0) kp)
  ·left
   rw [y3] at hl2
   rw [hl2] at hl
   intro i hi
   rw [crash_n, hn3] at hi
   by_cases hi0 : i = 0
   ·subst hi0; exact hl
   ·exact crash_cl (c4 i (by omega) hi0) kp
 ·exact ⟨(d4.alive h1 h2).2, (d4.alive h1 h2).1, d4.fused.trans h1⟩
theorem good_heads {s : Dsk} {c : Nat} {m : List (List UInt8)} (h : Good headB s c m) (hc : c < 1000000) : ∃ cl, (∀ k, k < 2 → HeadIs s k (cl k)) ∧ best cl 2 = (c : Int) := by
 obtain ⟨l, h2a, h2b⟩ := h.h2
 obtain ⟨ot, ho1, ho2⟩ : ∃ ot, HeadIs s ((c + 1) % 2) ot ∧ (ot = none ∨ ∃ c', ot = some c' ∧ c' < c) := by
  rcases h2b with h2b | ⟨c', h3, h4, h5⟩
  ·exact ⟨none, by unfold HeadIs; rw [h2a.1, h2b], .inl rfl⟩
  ·exact ⟨some c', ⟨by omega, h4, by rw [h2a.1, h5]⟩, .inr ⟨c', rfl, h3⟩⟩
 refine ⟨fun k => if k = c % 2 then some c else ot, fun k hk => ?_, ?_⟩
 ·by_cases he : k = c % 2
  ·simp only [if_pos he]
   exact ⟨hc, he.symm, by rw [he]; exact h.h1.1⟩
  ·simp only [if_neg he]
   rw [show k = (c + 1) % 2 by omega]
   exact ho1
 ·unfold best best best
  rcases (show c % 2 = 0 ∨ c % 2 = 1 by omega) with h0 | h0
  ·rw [h0]
   rcases ho2 with rfl | ⟨c', rfl, hl⟩ <;> simp <;> omega
  ·rw [h0]
   rcases ho2 with rfl | ⟨c', rfl, hl⟩ <;> simp <;> omega
theorem mount_good (d L : Nat) (s : Dsk) (c : Nat) (m : List (List UInt8)) (w : World) (h : DkAt w d L s) (hg : Good headB s c m) (hc : c < 1000000) (hd : s.dead = false) (hK : KAt w) :
  Calls Tryz.prog 33 #[.pointer (some ⟨d, 0, none⟩)] w fun e w' =>
   ∃ v, e = .returned (.tuple #[.pointer (some ⟨v, 0, none⟩), .int .i64 0]) ∧ w.heap.size ≤ v ∧ VolB w' v d ((s.n - 8) / 2) c false ∧ Below w.heap.size w w' := by
 obtain ⟨cl, h1, h2⟩ := good_heads hg hc
 refine (mount_any d L s w h hg.n16 hg.n60 hd hK cl h1).mono ?_
 rintro e w' ⟨⟨h3, _⟩ | ⟨c', v, h3, h4, h5, h6⟩, hb⟩
 ·omega
 ·rw [h2] at h3
  have : c' = c := by omega
  subst this
  exact ⟨v, h4, h5, h6, hb⟩
theorem fmt_fok {s : Dsk} {k : Nat} (h : FOk s k) : FOk s.fmt.2 (k + 4) := by
 have h1 := sy_fok h
 have h2 := sy_fok h1
 have h3 := wr_fok h2 0 (headB 0)
 have h4 := sy_fok h3
 unfold Dsk.fmt
 split
 ·exact h1.mono (by omega)
 ·split
  ·exact h2.mono (by omega)
  ·split
   ·exact h3.mono (by omega)
   ·exact h4
def isM (s : Dsk) (c : Nat) (ls : List (List UInt8)) : Bool := decide (∀ i, i < ls.length → s.rd (8 + c % 2 * ls.length + i) = (ls[i]?).getD [])
def keptB (ks : List Bool) (all : Bool) (i : Nat) : Bool := if ks.length = 0 then all else (ks[i % ks.length]?).getD false
def BoolsAt (W : World) (A : Option Addr) (ks : List Bool) : Prop := ks = [] ∨ ∃ b off, A = some ⟨b, off, none⟩ ∧ b < W.heap.size ∧ ∀ (j : Nat) (x : Bool), ks[j]? = some x → W.cell? ⟨b, off + j, none⟩ = some (.bool x)
theorem BoolsAt.keep {W W' : World} {A : Option Addr} {ks : List Bool} (h : BoolsAt W A ks) (hs : W.heap.size ≤ W'.heap.size) (hk : ∀ j, j < W.heap.size → W'.heap[j]? = W.heap[j]?) : BoolsAt W' A ks := by
 rcases h with h | ⟨b, off, h1, h2, h3⟩
 ·exact .inl h
 ·exact .inr ⟨b, off, h1, by omega, fun j x hx => (World.cell?_of_block (a := ⟨b, off + j, none⟩) (hk b h2)).trans (h3 j x hx)⟩
theorem BoolsAt.below {W W' : World} {A : Option Addr} {ks : List Bool} (h : BoolsAt W A ks) (hb : Below W.heap.size W W') : BoolsAt W' A ks := h.keep hb.size hb.block
structure KeepAt (W : World) (bx B0 : Nat) (A : Option Addr) (c : Nat) (ks : List Bool) (all : Bool) : Prop where
 c0 : W.cell? ⟨bx, 0, none⟩ = some (.slice A ks.length c)
 c1 : W.cell? ⟨bx + 1, 0, none⟩ = some (.bool all)
 rd : ks = [] ∨ ∃ b off, A = some ⟨b, off, none⟩ ∧ b < B0 ∧ ∀ (j : Nat) (x : Bool), ks[j]? = some x → W.cell? ⟨b, off + j, none⟩ = some (.bool x)
 lt : bx + 1 < B0
theorem KeepAt.keep {W W' : World} {bx B0 : Nat} {A : Option Addr} {c : Nat} {ks : List Bool} {all : Bool} (h : KeepAt W bx B0 A c ks all) (hb : ∀ j, j < B0 → W'.heap[j]? = W.heap[j]?) : KeepAt W' bx B0 A c ks all := by
 have hl := h.lt
 refine ⟨(World.cell?_of_block (a := ⟨bx, 0, none⟩) (hb bx (by omega))).trans h.c0, (World.cell?_of_block (a := ⟨bx + 1, 0, none⟩) (hb (bx + 1) hl)).trans h.c1, ?_, hl⟩
 rcases h.rd with h | ⟨b, off, h1, h2, h3⟩
 ·exact .inl h
 ·exact .inr ⟨b, off, h1, h2, fun j x hx => (World.cell?_of_block (a := ⟨b, off + j, none⟩) (hb b h2)).trans (h3 j x hx)⟩
theorem dk_fuse (d L : Nat) (s : Dsk) (n : Int) (w : World) (h : DkAt w d L s) :
  Calls Tryz.prog 29 #[.pointer (some ⟨d, 0, none⟩), .int .i64 n] w fun e w' => e = .returned (.tuple #[]) ∧ DkAt w' d L (s.fuse n) ∧ Turn [d, L] w w' := by
 obtain ⟨xs, h⟩ := h
 refine (fuse_any d L xs s n w h).mono ?_
 rintro e w' ⟨rfl, h1, h2⟩
 exact ⟨rfl, ⟨xs, h1⟩, h2.more (by simp)⟩
theorem dk_new (n : Nat) (h0 : 1 ≤ n) (h1 : n ≤ 65536) (w : World) : Calls Tryz.prog 11 #[.int .i64 n] w fun e w' =>
  ∃ d L, e = .returned (.pointer (some ⟨d, 0, none⟩)) ∧ DkAt w' d L (Dsk.new n) ∧ w.heap.size ≤ d ∧ w.heap.size ≤ L ∧ Old w w' := by
 refine (new_in n h0 h1 w).mono ?_
 rintro e w' ⟨rfl, hA, hb⟩
 exact ⟨_, _, rfl, ⟨_, hA⟩, by omega, Nat.le_refl _, hb⟩
def Dsk.fmt2 (s : Dsk) : Bool × Dsk := if s.dead then (false, s) else s.fmt
theorem format_two (d L : Nat) (s : Dsk) (w : World) (h : DkAt w d L s) (hn : 16 ≤ s.n) (hn2 : s.n ≤ 1000) (hf : FOk s 0) (hz : ZeroD s) (hK : KAt w) :
  Calls Tryz.prog 32 #[.pointer (some ⟨d, 0, none⟩)] w fun e w' => e = .returned (.int .i64 (if s.fmt2.1 then 0 else 48)) ∧ DkAt w' d L s.fmt2.2 ∧ Turn [d, L] w w' := by
 unfold Dsk.fmt2
 by_cases hd : s.dead = true
 ·rw [if_pos hd]
  refine (format_dead d L s w h hn hd).mono ?_
  rintro e w' ⟨rfl, rfl⟩
  exact ⟨rfl, h, Turn.refl _ _⟩
 ·rw [if_neg hd]
  exact format_any d L s w h hn hn2 (by simpa using hd) hf (fun i hi => (hz i hi).1) hK
theorem fuse_n (s : Dsk) (n : Int) : (s.fuse n).n = s.n := by unfold Dsk.fuse; split <;> rfl
end Go.Proofs.YtgjnmpjimhbfgaaGreatDoor
