/-
  Encrypt.
-/
import Derived.Test.YtgjnmpjimhbfgaaGreatDoorAesI
import Derived.Test.YtgjnmpjimhbfgaaGreatDoorZzRowK
import Derived.Test.YtgjnmpjimhbfgaaGreatDoorZzWordsB
namespace Go.Proofs.YtgjnmpjimhbfgaaGreatDoor
set_option maxRecDepth 100000
open Go.RowKit
attribute [local go_sem] Oper.semAt_some
def encN (l : List UInt8) : Nat → List UInt8
 | 0 => zs 16
 | j + 1 => (encN l j).set j (sb (l.getD (shp j) 0))
theorem encN_len (l : List UInt8) (j : Nat) : (encN l j).length = 16 := by
 induction j with
 | zero => rfl
 | succ j ih => unfold encN; rw [List.length_set]; exact ih
def encM (R i : Nat) (s : List UInt8) : List UInt8 := if 0 < i then (if i < R - 1 then mixN (encN s 16) [2, 3, 1, 1] 4 else encN s 16) else s
def encF (ks : List UInt8) (R : Nat) (l : List UInt8) : Nat → List UInt8
 | 0 => l
 | i + 1 => xorL (encM R i (encF ks R l i)) (key ks i)
def encL (ks : List UInt8) (R : Nat) (l : List UInt8) : List UInt8 := encF ks R l R
theorem region_roundTurn {P : Program} {ops : Array Oper} {Q : Exit → Act → World → Prop} {n l : Nat} {id : Nat} {a : Act} {w : World} (S : List Nat) (hd : noDefer ops = true) (hL : ¬ LetsOut Q) (hm : P.follows .mixedOrders = true)
  (h : ∀ wd, Old w wd → Turn S w wd → w.heap.size = wd.heap.size → wpAnyH P .any ops Q (Turn S w) ops.size (Array.replicate ops.size false) a wd) : (Code.region id ops true).wpIn (Fence.wide.inRound l) n P Q a w :=
 region_round hd hL hm (Turn.of_below S (Old.drew (Old.refl w))) (fun hS => h _ (Old.drew (Old.refl w)) hS rfl)
theorem wpListIn_store_arr {n l : Nat} {P : Program} {ops : Array Oper} {rest : List Oper} {op : Oper} {a : Act} {w : World} {Q : Exit → Act → World → Prop} (hgd : op.guard = none) (ty : TypeId) (x y : Operand) (ho : op.op = .store ty x y)
  (g : Nat) (t : TypeId) (cur : Array Value) (cs : List Value) (hb : Blk w g t cur) (hx : a.eval x = .pointer (some ⟨g, 0, none⟩)) (hy : a.eval y = .agg cs.toArray)
  (hi : (P.info? ty).map (·.size) = some cs.length) (hc : cur.size = cs.length) (h1 : cs.all (·.oneCell') = true)
  (h : ∀ w', Blk w' g t cs.toArray → Turn [g] w w' → wpListIn (Fence.wide.inRound l) n P ops Q rest (a.put op.dst undef) w') : wpListIn (Fence.wide.inRound l) n P ops Q (op :: rest) a w :=
 wpListIn_plain hgd fun _ hK => oper_round (by rw [ho]; intro c hc'; cases hc') (op_store_arr ty x y ho g t cur cs.toArray hb hx hy hi hc (all_oneCell_toArray (List.all_eq_true.1 h1)) fun w' h2 h3 => hK _ _ (h w' h2 h3))
theorem keyMine.turn2 {kb b0 c : Nat} {ks : List UInt8} {K R cp base k : Nat} {S : List Nat} {W W' : World} (h : keyMine kb b0 c ks K R cp base k W) (ht : Turn S W W') (n1 : kb ∉ S) (n2 : c ∉ S) (n3 : K ∉ S) (k' : Nat) : keyMine kb b0 c ks K R cp base k' W' := by
 obtain ⟨h1, h2, h3, h4, h5, h6⟩ := h
 refine ⟨h1.turn ht n1, ?_, Nat.le_trans h3 ht.size, h4, h5, h6⟩
 obtain ⟨c1, c2, c3, c4, c5, c6, c7, c8, c9, c10, c11⟩ := h2
 refine ⟨⟨c1.1, c1.2.1, c1.2.2.turn ht n2⟩, c2, c3, Nat.lt_of_lt_of_le c4 ht.size, c5, c6, c7, c8, c9, c10, fun j x hx => ?_⟩
 rw [World.cell?_of_block (a := ⟨K, j, none⟩) (ht.block K c4 n3)]; exact c11 j x hx
theorem keysOf_any (pv : Value) (w : World) (hp : pv.oneCell' = true) : Calls Tryz.prog 141 #[pv] w fun e w' =>
  e = .returned (.func (.func 160) #[] #[.pointer (some ⟨w.heap.size, 0, none⟩)]) ∧ w' = w.alloc (.cells #[pv] 136) := by
 go_enter Tryz.func141, Tryz.ntmps141
 go_wp2
 go_ret
 exact ⟨rfl, rfl⟩
set_option maxRecDepth 100000 in
set_option maxHeartbeats 4000000 in
theorem enc_any (b0 c : Nat) (ks : List UInt8) (K R cp : Nat) (A : Option Addr) (cb : Nat) (l : List UInt8) (w : World) (h : Cip w b0 c ks K R cp) (hr : Rd w A 16 cb l) :
  Calls Tryz.prog 109 #[.pointer (some ⟨c, 0, none⟩), .slice A 16 cb] w fun e w' => ∃ sb : Nat, e = .returned (.slice (some ⟨sb, 0, none⟩) 16 16) ∧ w.heap.size ≤ sb ∧ St w' sb (encL ks R l) ∧ Below w.heap.size w w' := by
 have hl : l.length = 16 := hr.1.symm
 obtain ⟨bb, off, rfl, ha⟩ := hr.addr (by omega)
 have hR1 : 11 ≤ R := h.2.2.2.2.2.2.1
 have hR2 : R ≤ 15 := h.2.2.2.2.2.2.2.1
 have hR2' : (R : Int) ≤ 15 := by omega
 have hR1' : (11 : Int) ≤ R := by omega
 have hclt := h.1.2.2.lt
 have hKlt := h.2.2.2.1
 obtain ⟨x0, x1, x2, x3, x4, x5, x6, x7, x8, x9, x10, x11, x12, x13, x14, x15, hl16⟩ := list16 l hl
 obtain ⟨wa, hwa⟩ : ∃ wa, w.alloc (.cells #[.pointer (some ⟨c, 0, none⟩)] 136) = wa := ⟨_, rfl⟩
 have hba : Below w.heap.size w wa := by rw [← hwa]; exact (Below.refl _ _).alloc (Nat.le_refl _) _
 have hza : wa.heap.size = w.heap.size + 1 := by rw [← hwa]; simp
 have hxa : Blk wa w.heap.size 136 #[.pointer (some ⟨c, 0, none⟩)] := by rw [← hwa]; exact Blk.new _ _ _
 have hrng : wa.rangeAt bb off [B x0, B x1, B x2, B x3, B x4, B x5, B x6, B x7, B x8, B x9, B x10, B x11, B x12, B x13, B x14, B x15] := fun j v hv => by
  have hv' : (l.map B)[j]? = some v := by rw [hl16]; exact hv
  rw [List.getElem?_map] at hv'
  obtain ⟨x, hx, rfl⟩ := Option.map_eq_some_iff.1 hv'
  have := ha.2 j x hx
  rw [← hba.cell (p := ⟨bb, off + j, none⟩) ha.1] at this
  exact this
 have hcb : 16 ≤ cb := hr.2.1
 have hat : ∀ w, (Instr.arrayAt 153 (.slice (some ⟨bb, off, none⟩) 16 cb)).run Tryz.prog w = .ok (.pointer (some ⟨bb, off, none⟩)) w := fun w => run_arrayAt w 153 _ 16 _ 16 _ Tryz.underlying153 (by decide)
 obtain ⟨wb, hwb⟩ : ∃ wb, wa.alloc (.cells #[B x0, B x1, B x2, B x3, B x4, B x5, B x6, B x7, B x8, B x9, B x10, B x11, B x12, B x13, B x14, B x15] 153) = wb := ⟨_, rfl⟩
 have hSt : St wb (w.heap.size + 1) l := by rw [← hwb, hl16, ← hza]; exact ⟨rfl, Blk.new _ _ _⟩
 have hbb : Below w.heap.size w wb := by rw [← hwb]; exact hba.alloc hba.size _
 have hxb : Blk wb w.heap.size 136 #[.pointer (some ⟨c, 0, none⟩)] := by rw [← hwb]; exact hxa.alloc _
 have hzb : wb.heap.size = w.heap.size + 2 := by rw [← hwb]; simp [hza]
 have a0 : wa.cell? ⟨w.heap.size, 0, none⟩ = some (.pointer (some ⟨c, 0, none⟩)) := by rw [hxa.cell 0]; rfl
 have b1 : wb.cell? ⟨w.heap.size, 0, none⟩ = some (.pointer (some ⟨c, 0, none⟩)) := by rw [hxb.cell 0]; rfl
 have HH := Lib.hid (And.intro h (And.intro hrng (And.intro hl (And.intro hSt (And.intro hbb hxb)))))
 have HZ := Lib.hid (And.intro hza hzb)
 have Hwa := Lib.hid hwa
 have Hwb := Lib.hid hwb
 clear h hrng hr ha hl hl16 hSt hbb hxb hxa hba
 refine calls_of_marks Tryz.func109 rfl ?_
 simp only [Tryz.ntmps109, List.size_toArray, List.length_cons, List.length_nil, Nat.reduceAdd, Nat.reduceSub, Array.replicate_succ, Array.replicate_zero, List.push_toArray, List.append_toArray, List.nil_append, List.cons_append]
 go_upto_region 1 with fail
 clear hwa
 go_wp2_with (first | (refine wpList_load_mid rfl 153 (.tmp 18) rfl bb off rfl [B x0, B x1, B x2, B x3, B x4, B x5, B x6, B x7, B x8, B x9, B x10, B x11, B x12, B x13, B x14, B x15] _ HH.out.2.1 Tryz.underlying153 rfl rfl ?_) | (go_at_call 141; refine (keysOf_any _ _ rfl).mono ?_; rintro e w3 ⟨rfl, hw3⟩))
 have hX3 : Blk w3 w.heap.size 136 #[.pointer (some ⟨c, 0, none⟩)] := by rw [hw3]; exact HH.out.2.2.2.2.2.alloc _
 have hK3 : Blk w3 (w.heap.size + 2) 136 #[.pointer (some ⟨c, 0, none⟩)] := by rw [hw3, ← hzb]; exact Blk.new _ _ _
 have hS3 : St w3 (w.heap.size + 1) l := by rw [hw3]; exact HH.out.2.2.2.1.alloc_ _
 have hB3 : Below w.heap.size w w3 := by rw [hw3]; exact HH.out.2.2.2.2.1.alloc HH.out.2.2.2.2.1.size _
 have hz3 : w3.heap.size = w.heap.size + 3 := by rw [hw3]; simp [hzb]
 have hC3 := HH.out.1.below hB3
 have H3 := Lib.hid (And.intro hX3 (And.intro hK3 (And.intro hS3 (And.intro hB3 (And.intro hz3 hC3)))))
 rw [← hw3]
 clear hw3 hX3 hK3 hS3 hB3 hC3 b1 a0 hwb hat hza hzb
 refine wp_range2 6 7 (gf := 160) (lb := #[.pointer (some ⟨w.heap.size + 2, 0, none⟩)]) (T := []) rfl (fun _ _ => by kernel_rfl)
  (keys_iter (w.heap.size + 2) b0 c ks K R cp w3.heap.size) (fun k args W h => by obtain ⟨A, cq, rfl, _⟩ := h; rfl) (by simp)
  (fun k W => St W (w.heap.size + 1) (encF ks R l k) ∧ Blk W w.heap.size 136 #[.pointer (some ⟨c, 0, none⟩)] ∧ Below w.heap.size w W)
  (fun _ _ _ => False)
  ?hI ?hIx ?hM ?hA ⟨H3.out.2.2.1, H3.out.1, H3.out.2.2.2.1⟩ ?hM0 ?hM1 ?hassign ?hbody ?hdone ?hstop
 case hI =>
  rintro k W1 W2 S ⟨h1, h2, h3⟩ ht hS
  have hS' : ∀ t ∈ S, w.heap.size + 2 < t := by
   intro t h
   rcases hS t h with h | ⟨h, _⟩
   ·cases h
   ·omega
  exact ⟨h1.turn ht (fun h => by have := hS' _ h; omega), h2.turn ht (fun h => by have := hS' _ h; omega), below_turn h3 ht (fun t h => by have := hS' _ h; omega) h3.size⟩
 case hIx => rintro c k W1 W2 S h; exact h.elim
 case hM =>
  rintro k W1 W2 hM ⟨r, hr⟩ ht
  exact hM.turn ht (by simp) k
 case hA =>
  rintro k args W1 W2 ⟨A, cq, rfl, hrd, hge⟩ ⟨r, hr⟩ ht
  refine ⟨A, cq, rfl, hrd.turn ht (fun ad had hm => ?_), hge⟩
  obtain ⟨b, off, e, ha⟩ := hrd.addr (by omega)
  rw [e] at had
  cases had
  simp at hm
  have hkl : (key ks k).length = 16 := hrd.1.symm
  obtain ⟨y, hy⟩ := at16 _ hkl 0 (by omega)
  have := ha.2 0 y hy
  subst hm
  simp [World.cell?, hr] at this
 case hM0 => exact ⟨H3.out.2.1, H3.out.2.2.2.2.2, Nat.le_refl _, by omega, by omega, by omega⟩
 case hM1 =>
  intro W ht
  exact keyMine.turn (k := 0) ⟨H3.out.2.1, H3.out.2.2.2.2.2, Nat.le_refl _, by omega, by omega, by omega⟩ ht (by simp) 0
 case hassign =>
  rintro l' args k W K' ⟨A', cq, rfl, _⟩ hK
  simp at hK
  gi_wp2
  exact hK
 case hbody =>
  rintro l' k args W hkN hlt ⟨h1, h2, h3⟩ hMi ⟨A', cq, rfl, hrd, hge⟩
  have hsb : ∀ ad, A' = some ad → ad.block ≠ w.heap.size + 1 := fun ad had => by have := hge ad had; omega
  have hnext : encF ks R l (k + 1) = xorL (encM R k (encF ks R l k)) (key ks k) := rfl
  generalize hs : encF ks R l k = s at *
  have p0 : W.cell? ⟨w.heap.size, 0, none⟩ = some (.pointer (some ⟨c, 0, none⟩)) := by rw [h2.cell 0]; rfl
  have hb := Lib.hid (And.intro h1 (And.intro h2 (And.intro h3 (And.intro hMi (And.intro hrd (And.intro hge (And.intro hsb hnext)))))))
  have hk15 : (k : Int) ≤ 15 := by omega
  clear h1 h2 h3 hMi hrd hge hsb hnext
  by_cases hk0 : k = 0
  ·have hk0' : ¬ (0 < (k : Int)) := by omega
   have hk0'' : decide (0 < (k : Int)) = false := decide_eq_false hk0'
   have hA := Lib.hid (add_any (w.heap.size + 1) s A' cq (key ks k) W hb.out.1 hb.out.2.2.2.2.1 hb.out.2.2.2.2.2.2.1)
   have hm : encM R k s = s := by unfold encM; rw [if_neg (by omega)]
   have HM := Lib.hid hm
   clear hm hk0
   gi_wp2_with (refine ⟨trivial, ?_⟩; gi_at_call 143; refine (callsIn_wide.2 hA.out).mono ?_; rintro e w5 ⟨rfl, hS5, hT5⟩)
   refine ⟨⟨[w.heap.size + 1], hT5, by simp; omega, by simp; omega⟩, ⟨by rw [hb.out.2.2.2.2.2.2.2, HM.out]; exact hS5, hb.out.2.1.turn hT5 (by simp), below_turn hb.out.2.2.1 hT5 (by simp) hb.out.2.2.1.size⟩, ?_⟩
   exact hb.out.2.2.2.1.turn2 hT5 (by simp) (by simp; omega) (by simp; omega) k
  ·have hk0' : 0 < (k : Int) := by omega
   have hk0'' : decide (0 < (k : Int)) = true := decide_eq_true hk0'
   have hkn : 0 < k := by omega
   have hkn' : decide (0 < k) = true := decide_eq_true hkn
   have n1 : w.heap.size + 1 ≠ W.heap.size := by omega
   have n2 : w.heap.size ≠ W.heap.size := by omega
   have n3 : c ≠ W.heap.size := by omega
   have hZ := st_new W
   have hSa := hb.out.1.alloc_ (.cells Z16 153)
   have hXa := hb.out.2.1.alloc (.cells Z16 153)
   have hCa : CAt (W.alloc (.cells Z16 153)) c _ boxL invL := ⟨hb.out.2.2.2.1.2.1.1.1, hb.out.2.2.2.1.2.1.1.2.1, hb.out.2.2.2.1.2.1.1.2.2.alloc _⟩
   have hTa : Turn [w.heap.size + 1] W (W.alloc (.cells Z16 153)) := (Turn.refl _ _).alloc _
   have hZs : W.heap.size ≤ (W.alloc (.cells Z16 153)).heap.size := by simp
   have HQ := Lib.hid (And.intro hZ (And.intro hSa (And.intro hXa (And.intro hCa (And.intro hTa hZs)))))
   unfold Z16 at HQ
   clear hZ hSa hXa hCa hTa hZs hk0
   gi_wp2_with fail
   generalize W.alloc (.cells #[.int .u8 0, .int .u8 0, .int .u8 0, .int .u8 0, .int .u8 0, .int .u8 0, .int .u8 0, .int .u8 0, .int .u8 0, .int .u8 0, .int .u8 0, .int .u8 0, .int .u8 0, .int .u8 0, .int .u8 0, .int .u8 0] 153) = wd at *
   gi_loopw [26] (fun jv wz => ∃ j : Nat, j ≤ 16 ∧ jv = .int .i64 (j : Int) ∧ St wz W.heap.size (encN s j) ∧ Turn [W.heap.size] wd wz) (fun jv _ => 16 - (intOf jv).toNat)
   case atStart => exact ⟨0, by omega, rfl, HQ.out.1, Turn.refl _ _⟩
   case round =>
    obtain ⟨j, hj, rfl, hA, hT⟩ := hrel
    have hS := HQ.out.2.1.turn hT (by simp; exact n1)
    have hX := HQ.out.2.2.1.turn hT (by simp; exact n2)
    have hC : CAt wr c _ boxL invL := ⟨HQ.out.2.2.2.1.1, HQ.out.2.2.2.1.2.1, HQ.out.2.2.2.1.2.2.turn hT (by simp; exact n3)⟩
    by_cases hjlt : j < 16
    ·have hq : (j : Int) < 16 := by omega
     obtain ⟨m, hm⟩ : ∃ m, m = j % 4 := ⟨_, rfl⟩
     obtain ⟨p, hp⟩ : ∃ p, p = shp j := ⟨_, rfl⟩
     have hp' : p = (j + j % 4 * 4) % 16 := hp
     have hp16 : p < 16 := by omega
     obtain ⟨x, hx⟩ := at16 s hS.1 p hp16
     have e3 : (x.toNat : Int) < 256 := by have := x.toNat_lt; omega
     have g0 : (j : Int).tmod 4 = (m : Int) := by rw [Int.tmod_eq_emod_of_nonneg (by omega)]; omega
     have g1 : IntKind.i64.wrap ((m : Int) * 4) = (m : Int) * 4 := IntWalk.i64_in _ (by omega)
     have g2 : IntKind.i64.wrap ((j : Int) + (m : Int) * 4) = (j : Int) + (m : Int) * 4 := IntWalk.i64_in _ (by omega)
     have g6 : ((j : Int) + (m : Int) * 4).tmod 16 = (p : Int) := by rw [Int.tmod_eq_emod_of_nonneg (by omega)]; omega
     have g4 : (p : Int) < 16 := by omega
     have hF : ∀ wq, Turn [W.heap.size] wr wq → wq.cell? ⟨w.heap.size, 0, none⟩ = some (.pointer (some ⟨c, 0, none⟩)) ∧ wq.cell? ⟨w.heap.size + 1, p, none⟩ = some (B x) ∧ wq.cell? ⟨c, 1 + x.toNat, none⟩ = some (B (sb x)) := fun wq hq => by
      refine ⟨by rw [(hX.turn hq (by simp; exact n2)).cell 0]; rfl, (hS.turn hq (by simp; exact n1)).cell p x hx, ?_⟩
      have hC' : CAt wq c _ boxL invL := ⟨hC.1, hC.2.1, hC.2.2.turn hq (by simp; exact n3)⟩
      exact hC'.boxCell _ _ (box_at x)
     obtain ⟨y, hy⟩ := at16 (encN s j) hA.1 j hjlt
     have y0 := fun wq (ho : Old wr wq) => (show St wq W.heap.size (encN s j) from ⟨hA.1, hA.2.below ho⟩).cell j y hy
     have y1 := fun wq (ho : Old wr wq) => (show St wq W.heap.size (encN s j) from ⟨hA.1, hA.2.below ho⟩).frozen j
     have hnew : encN s (j + 1) = (encN s j).set j (sb x) := by
      show (encN s j).set j (sb (s.getD (shp j) 0)) = _
      rw [← hp, List.getD_eq_getElem?_getD, hx]; rfl
     have HF := Lib.hid hF
     have HB := Lib.hid (And.intro hA (And.intro hT hnew))
     have HY := Lib.hid (And.intro y0 y1)
     clear hA hT hS hX hC hF hnew hx hy hp hp' hm y0 y1 hj
     gi_wp2_with fail
     refine region_roundTurn [W.heap.size] (by kernel_rfl) ?hlets (by kernel_rfl) (fun we hOld hHeld hSz => ?_)
     case hlets => rintro ⟨_, _, h⟩; exact h
     have HSz := Lib.hid hSz
     clear hSz
     have z0 := HY.out.1 we hOld
     have z1 := HY.out.2 we hOld
     have HO := Lib.hid hOld
     clear hOld
     refine tkS 0 hHeld ?_
     refine tkS 1 hHeld ?_ (hy := by intro wq hSw; obtain ⟨f1, f2, f3⟩ := HF.out wq hSw; clear hSw; go_simp; try with_reducible rfl)
     refine tkS 2 hHeld ?_
     refine tkS 3 hHeld ?_
     refine tkS 4 hHeld ?_
     refine tkS 5 hHeld ?_
     refine tkS 6 hHeld ?_
     refine tkS 7 hHeld ?_
     refine tkS 8 hHeld ?_
     refine tkS 9 hHeld ?_ (hy := by intro wq hSw; obtain ⟨f1, f2, f3⟩ := HF.out wq hSw; clear hSw; go_simp; try with_reducible rfl)
     refine tkS 10 hHeld ?_
     refine tkS 11 hHeld ?_
     refine tkS 12 hHeld ?_
     refine tkS 13 hHeld ?_ (hy := by intro wq hSw; obtain ⟨f1, f2, f3⟩ := HF.out wq hSw; clear hSw; go_simp; try with_reducible rfl)
     refine tkS 14 hHeld ?_
     refine rdL 15 (fun K hK => ?_)
     go_simp
     refine hK.out _ _ (hHeld.setCell (.inl (by simp)) _) (fun hHeld => ?_)
     clear hK K
     try simp only [Act.put, sA, sB, sC]
     refine wpAnyH_done (by kernel_rfl) ?_ _
     have HH2 := Lib.hid hHeld
     clear hHeld z0 z1
     gi_wp2_with fail
     go_roundw
     case rel =>
      refine ⟨j + 1, by omega, by go_num, ?_, HB.out.2.1.trans HH2.out (fun x hx => .inl hx)⟩
      rw [HB.out.2.2]
      exact (show St we W.heap.size (encN s j) from ⟨HB.out.1.1, HB.out.1.2.below HO.out⟩).set_ j (sb x)
     case measure => simp [intOf]; omega
    ·obtain rfl : j = 16 := by omega
     have hq : ¬ ((16 : Int) < 16) := by omega
     have hT4 : Turn [w.heap.size + 1] W wr := HQ.out.2.2.2.2.1.trans hT (fun x hx => .inr (by simp at hx; omega))
     have hs2l := encN_len s 16
     have hem : encM R k s = (if k < R - 1 then mixN (encN s 16) [2, 3, 1, 1] 4 else encN s 16) := by unfold encM; rw [if_pos (by omega)]
     generalize encN s 16 = s2 at *
     have hrg : wr.rangeAt W.heap.size 0 (s2.map B) := fun j v hv => by
      rw [List.getElem?_map] at hv
      obtain ⟨x, hx, rfl⟩ := Option.map_eq_some_iff.1 hv
      rw [Nat.zero_add]; exact hA.cell j x hx
     have hcut : ∀ w', Turn [w.heap.size + 1] wr w' → w'.cell? ⟨w.heap.size, 0, none⟩ = some (.pointer (some ⟨c, 0, none⟩)) ∧ w'.cell? ⟨c, 0, none⟩ = some (.slice (some ⟨K, 0, none⟩) R cp) := fun w' h => by
      refine ⟨by rw [(hX.turn h (by simp)).cell 0]; rfl, ?_⟩
      rw [(hC.2.2.turn h (by simp; omega)).cell 0]; rfl
     have hadd : ∀ w' s', Turn [w.heap.size + 1] wr w' → St w' (w.heap.size + 1) s' → Calls Tryz.prog 143 #[.pointer (some ⟨w.heap.size + 1, 0, none⟩), .slice A' 16 cq] w' fun e w'' => e = .returned (.tuple #[]) ∧ St w'' (w.heap.size + 1) (xorL s' (key ks k)) ∧ Turn [w.heap.size + 1] w' w'' := fun w' s' h hs' =>
      add_any (w.heap.size + 1) s' A' cq (key ks k) w' hs' (hb.out.2.2.2.2.1.turn (hT4.trans h (fun x hx => .inl hx)) (fun ad had hm => hb.out.2.2.2.2.2.2.1 ad had (by simpa using hm))) hb.out.2.2.2.2.2.2.1
     have hend : ∀ w' s', Turn [w.heap.size + 1] wr w' → encM R k s = s' → St w' (w.heap.size + 1) (xorL s' (key ks k)) → KeepsTwo w3.heap.size W w' ∧ (St w' (w.heap.size + 1) (encF ks R l (k + 1)) ∧ Blk w' w.heap.size 136 #[.pointer (some ⟨c, 0, none⟩)] ∧ Below w.heap.size w w') ∧ keyMine (w.heap.size + 2) b0 c ks K R cp w3.heap.size k w' := fun w' s' h he hs' => by
      have hT6 := hT4.trans h (fun x hx => .inl hx)
      refine ⟨⟨[w.heap.size + 1], hT6, by simp; omega, by simp; omega⟩, ⟨by rw [hb.out.2.2.2.2.2.2.2, he]; exact hs', hb.out.2.1.turn hT6 (by simp), below_turn hb.out.2.2.1 hT6 (by simp) hb.out.2.2.1.size⟩, ?_⟩
      exact hb.out.2.2.2.1.turn2 hT6 (by simp) (by simp; omega) (by simp; omega) k
     have hpw : wr.cell? ⟨w.heap.size, 0, none⟩ = some (.pointer (some ⟨c, 0, none⟩)) := (hcut wr (Turn.refl _ _)).1
     have HE := Lib.hid (And.intro hrg (And.intro hcut (And.intro hadd (And.intro hend (And.intro hs2l (And.intro hem hS))))))
     have q4 : IntKind.i64.wrap ((R : Int) - 1) = (R : Int) - 1 := IntWalk.i64_in _ (by omega)
     have z5 : (0 : Int) ≤ R := by omega
     clear hrg hcut hadd hend hs2l hem hS hA hT hX hC hT4 hj hjlt
     by_cases hm : k < R - 1
     ·have hm2 : (k : Int) < (R : Int) - 1 := by omega
      have hmix : ∀ w', St w' (w.heap.size + 1) s2 → Calls Tryz.prog 142 #[.pointer (some ⟨w.heap.size + 1, 0, none⟩), .agg #[.int .u8 2, .int .u8 3, .int .u8 1, .int .u8 1]] w' fun e w'' => e = .returned (.tuple #[]) ∧ St w'' (w.heap.size + 1) (mixN s2 [2, 3, 1, 1] 4) ∧ Turn [w.heap.size + 1] w' w'' := fun w' h => mix_any (w.heap.size + 1) s2 2 3 1 1 w' h
      have HMx := Lib.hid hmix
      have hem2 : encM R k s = mixN s2 [2, 3, 1, 1] 4 := by rw [HE.out.2.2.2.2.2.1, if_pos hm]
      have HEm := Lib.hid hem2
      clear hmix hem2
      gi_wp2_with (first | (refine wpListIn_load_mid rfl 153 (.tmp 8) rfl W.heap.size 0 rfl (s2.map B) _ HE.out.1 Tryz.underlying153 rfl (by rw [List.length_map, HE.out.2.2.2.2.1]; rfl) ?_) | (refine wpListIn_store_arr rfl 153 (.tmp 5) (.tmp 45) rfl (w.heap.size + 1) 153 _ (s2.map B) HE.out.2.2.2.2.2.2.2 rfl rfl (by rw [List.length_map, HE.out.2.2.2.2.1]; rfl) (by simp [HE.out.2.2.2.2.1, HE.out.2.2.2.2.2.2.1]) (by rw [List.all_eq_true]; exact map_one s2) ?_; intro w5 hB5 hT5; obtain ⟨p5, c5⟩ := HE.out.2.1 w5 hT5; have hS5 : St w5 (w.heap.size + 1) s2 := ⟨HE.out.2.2.2.2.1, hB5⟩; have H5 := Lib.hid (And.intro hS5 hT5); clear hB5 hT5 hS5) | (refine ⟨trivial, ?_⟩; gi_at_call 142; refine (callsIn_wide.2 (HMx.out w5 H5.out.1)).mono ?_; rintro e w6 ⟨rfl, hS6, hT6⟩; have hT56 := H5.out.2.trans hT6 (fun x hx => .inl hx); have H6 := Lib.hid (And.intro hS6 hT56); clear hS6 hT6 hT56 p5 c5) | (refine ⟨trivial, ?_⟩; gi_at_call 143; refine (callsIn_wide.2 (HE.out.2.2.1 w6 _ H6.out.2 H6.out.1)).mono ?_; rintro e w7 ⟨rfl, hS7, hT7⟩))
      exact HE.out.2.2.2.1 w7 _ (H6.out.2.trans hT7 (fun x hx => .inl hx)) HEm.out hS7
     ·have hm2 : ¬ ((k : Int) < (R : Int) - 1) := by omega
      have hem2 : encM R k s = s2 := by rw [HE.out.2.2.2.2.2.1, if_neg hm]
      have HEm := Lib.hid hem2
      clear hem2
      gi_wp2_with (first | (refine wpListIn_load_mid rfl 153 (.tmp 8) rfl W.heap.size 0 rfl (s2.map B) _ HE.out.1 Tryz.underlying153 rfl (by rw [List.length_map, HE.out.2.2.2.2.1]; rfl) ?_) | (refine wpListIn_store_arr rfl 153 (.tmp 5) (.tmp 45) rfl (w.heap.size + 1) 153 _ (s2.map B) HE.out.2.2.2.2.2.2.2 rfl rfl (by rw [List.length_map, HE.out.2.2.2.2.1]; rfl) (by simp [HE.out.2.2.2.2.1, HE.out.2.2.2.2.2.2.1]) (by rw [List.all_eq_true]; exact map_one s2) ?_; intro w5 hB5 hT5; obtain ⟨p5, c5⟩ := HE.out.2.1 w5 hT5; have hS5 : St w5 (w.heap.size + 1) s2 := ⟨HE.out.2.2.2.2.1, hB5⟩; have H5 := Lib.hid (And.intro hS5 hT5); clear hB5 hT5 hS5) | (refine ⟨trivial, ?_⟩; gi_at_call 143; refine (callsIn_wide.2 (HE.out.2.2.1 w5 _ H5.out.2 H5.out.1)).mono ?_; rintro e w7 ⟨rfl, hS7, hT7⟩))
      exact HE.out.2.2.2.1 w7 _ (H5.out.2.trans hT7 (fun x hx => .inl hx)) HEm.out hS7
 case hdone =>
  rintro W hlt ⟨h1, h2, h3⟩ hK
  go_wp2_with fail
  have hT : Turn [w3.heap.size] W (W.putObj w3.heap.size (.deferred none)) := (Turn.refl _ W).putObj (.inl (by simp)) _
  refine ret_mark (v := .slice (some ⟨w.heap.size + 1, 0, none⟩) 16 16) rfl hK (fun W' => by simp [results, Tryz.results109, go_sem]) ?_
  exact ⟨w.heap.size + 1, rfl, by omega, h1.turn hT (by simp; omega), below_turn h3 hT (by simp; omega) h3.size⟩
 case hstop => rintro c k W hlt hkN h; exact h.elim
end Go.Proofs.YtgjnmpjimhbfgaaGreatDoor
namespace Go.Proofs.YtgjnmpjimhbfgaaGreatDoor
set_option maxRecDepth 100000
open Go.RowKit
theorem U64_lit (n : Nat) (h : n < 18446744073709551616) : (.int .u64 (n : Int) : Value) = U64 (UInt64.ofNat n) := by
 symm
 refine U64_eq ?_
 rw [UInt64.toNat_ofNat', Nat.mod_eq_of_lt (by omega)]
theorem andI_U64_q (t : TypeId) (x : UInt64) (n : Int) (h0 : 0 ≤ n) (h : n < 18446744073709551616) : binOp .and t (U64 x) (.int .u64 n) = pure (U64 (x &&& UInt64.ofNat n.toNat)) := by
 obtain ⟨m, rfl⟩ := Int.eq_ofNat_of_zero_le h0
 rw [U64_lit m (by omega), and_U64]; rfl
theorem andIL_U64 (t : TypeId) (x : UInt64) (n : Int) (h0 : 0 ≤ n) (h : n < 18446744073709551616) : binOp .and t (.int .u64 n) (U64 x) = pure (U64 (UInt64.ofNat n.toNat &&& x)) := by
 obtain ⟨m, rfl⟩ := Int.eq_ofNat_of_zero_le h0
 rw [U64_lit m (by omega), and_U64]; rfl
theorem neg_U64 (x : UInt64) : Op.unary .neg (U64 x) = pure (U64 (-x)) := by
 show (pure (.int .u64 (IntKind.u64.wrap (0 - (x.toNat : Int)))) : Sem Value) = _
 rw [wrap_u64, ← U64_eq]
 have h := x.toNat_lt
 rw [UInt64.toNat_neg]
 simp only [UInt64.size]
 omega
attribute [local go_sem] andI_U64_q andIL_U64 neg_U64 shr_U64
def bitE (h l : UInt64) (i : Nat) : UInt64 := (if 63 < i then l >>> UInt64.ofNat (63 - i % 64) else h >>> UInt64.ofNat (63 - i % 64)) &&& 1
structure Es where
 zh : UInt64
 zl : UInt64
 yh : UInt64
 yl : UInt64
def eStep (xh xl : UInt64) (i : Nat) (s : Es) : Es :=
 { zh := s.zh ^^^ (s.yh &&& -(bitE xh xl i)), zl := s.zl ^^^ (s.yl &&& -(bitE xh xl i)),
   yh := (s.yh >>> 1) ^^^ (16212958658533785600 &&& -(s.yl &&& 1)), yl := (s.yl >>> 1) ||| (s.yh <<< 63) }
def eF (xh xl yh yl : UInt64) : Nat → Es
 | 0 => ⟨0, 0, yh, yl⟩
 | i + 1 => eStep xh xl i (eF xh xl yh yl i)
def El (h l : UInt64) : Value := .agg #[U64 h, U64 l]
theorem eRound {X : Nat} {w wr : World} {xh xl vh vl zh zl : UInt64} (h1 : Blk wr X 186 #[U64 xh, U64 xl]) (h2 : Blk wr (X + 1) 186 #[U64 vh, U64 vl]) (h3 : Blk wr (X + 1 + 1 + 1) 186 #[U64 zh, U64 zl]) (h4 : Blk wr (X + 1 + 1) 186 #[U64 0, U64 0]) (h5 : Below X w wr) (b : UInt64) :
  Blk ((((wr.setCell ⟨X + 1 + 1 + 1, 0, none⟩ (U64 (zh ^^^ vh &&& -b))).setCell ⟨X + 1 + 1 + 1, 1, none⟩ (U64 (zl ^^^ vl &&& -b))).setCell ⟨X + 1, 1, none⟩ (U64 (vl >>> 1 ||| vh <<< 63))).setCell ⟨X + 1, 0, none⟩ (U64 (vh >>> 1 ^^^ 16212958658533785600 &&& -(vl &&& 1)))) X 186 #[U64 xh, U64 xl] ∧
  Blk ((((wr.setCell ⟨X + 1 + 1 + 1, 0, none⟩ (U64 (zh ^^^ vh &&& -b))).setCell ⟨X + 1 + 1 + 1, 1, none⟩ (U64 (zl ^^^ vl &&& -b))).setCell ⟨X + 1, 1, none⟩ (U64 (vl >>> 1 ||| vh <<< 63))).setCell ⟨X + 1, 0, none⟩ (U64 (vh >>> 1 ^^^ 16212958658533785600 &&& -(vl &&& 1)))) (X + 1) 186 #[U64 (vh >>> 1 ^^^ 16212958658533785600 &&& -(vl &&& 1)), U64 (vl >>> 1 ||| vh <<< 63)] ∧
  Blk ((((wr.setCell ⟨X + 1 + 1 + 1, 0, none⟩ (U64 (zh ^^^ vh &&& -b))).setCell ⟨X + 1 + 1 + 1, 1, none⟩ (U64 (zl ^^^ vl &&& -b))).setCell ⟨X + 1, 1, none⟩ (U64 (vl >>> 1 ||| vh <<< 63))).setCell ⟨X + 1, 0, none⟩ (U64 (vh >>> 1 ^^^ 16212958658533785600 &&& -(vl &&& 1)))) (X + 1 + 1 + 1) 186 #[U64 (zh ^^^ vh &&& -b), U64 (zl ^^^ vl &&& -b)] ∧
  Blk ((((wr.setCell ⟨X + 1 + 1 + 1, 0, none⟩ (U64 (zh ^^^ vh &&& -b))).setCell ⟨X + 1 + 1 + 1, 1, none⟩ (U64 (zl ^^^ vl &&& -b))).setCell ⟨X + 1, 1, none⟩ (U64 (vl >>> 1 ||| vh <<< 63))).setCell ⟨X + 1, 0, none⟩ (U64 (vh >>> 1 ^^^ 16212958658533785600 &&& -(vl &&& 1)))) (X + 1 + 1) 186 #[U64 0, U64 0] ∧
  Below X w ((((wr.setCell ⟨X + 1 + 1 + 1, 0, none⟩ (U64 (zh ^^^ vh &&& -b))).setCell ⟨X + 1 + 1 + 1, 1, none⟩ (U64 (zl ^^^ vl &&& -b))).setCell ⟨X + 1, 1, none⟩ (U64 (vl >>> 1 ||| vh <<< 63))).setCell ⟨X + 1, 0, none⟩ (U64 (vh >>> 1 ^^^ 16212958658533785600 &&& -(vl &&& 1)))) := by
 refine ⟨(((h1.far ?_ _).far ?_ _).far ?_ _).far ?_ _, ?_, ?_, (((h4.far ?_ _).far ?_ _).far ?_ _).far ?_ _, ?_⟩
 any_goals (show _ ≠ _; simp; try omega)
 ·exact (((h2.far (by show X + 1 ≠ X + 1 + 1 + 1; omega) _).far (by show X + 1 ≠ X + 1 + 1 + 1; omega) _).set_ 1 _).set_ 0 _
 ·exact ((((h3.set_ 0 _).set_ 1 _).far (by show X + 1 + 1 + 1 ≠ X + 1; omega) _).far (by show X + 1 + 1 + 1 ≠ X + 1; omega) _)
 ·have hT : Turn [X + 1, X + 1 + 1 + 1] wr ((((wr.setCell ⟨X + 1 + 1 + 1, 0, none⟩ (U64 (zh ^^^ vh &&& -b))).setCell ⟨X + 1 + 1 + 1, 1, none⟩ (U64 (zl ^^^ vl &&& -b))).setCell ⟨X + 1, 1, none⟩ (U64 (vl >>> 1 ||| vh <<< 63))).setCell ⟨X + 1, 0, none⟩ (U64 (vh >>> 1 ^^^ 16212958658533785600 &&& -(vl &&& 1)))) :=
   ((((Turn.refl _ _).setCell (.inl (by simp)) _).setCell (.inl (by simp)) _).setCell (.inl (by simp)) _).setCell (.inl (by simp)) _
  exact below_turn h5 hT (fun t ht => by simp at ht; omega) (by have := h1.lt; omega)
set_option maxHeartbeats 4000000 in
theorem etimes_any (xh xl yh yl : UInt64) (w : World) :
  Calls Tryz.prog 158 #[El xh xl, El yh yl] w fun e w' => e = .returned (El (eF xh xl yh yl 128).zh (eF xh xl yh yl 128).zl) ∧ Below w.heap.size w w' := by
 obtain ⟨X, hX⟩ : ∃ X, w.heap.size = X := ⟨_, rfl⟩
 obtain ⟨w1, hw1⟩ : ∃ w1, (((w.alloc (.cells #[U64 xh, U64 xl] 186)).alloc (.cells #[U64 yh, U64 yl] 186)).alloc (.cells #[.int .u64 0, .int .u64 0] 186)).alloc (.cells #[.int .u64 0, .int .u64 0] 186) = w1 := ⟨_, rfl⟩
 unfold El
 go_enter Tryz.func158, Tryz.ntmps158
 go_wp2
 have hxb : Blk w1 X 186 #[U64 xh, U64 xl] := by rw [← hw1, ← hX]; exact (((Blk.new _ _ _).alloc _).alloc _).alloc _
 have hyb : Blk w1 (X + 1) 186 #[U64 yh, U64 yl] := by
  have := Blk.new (w.alloc (.cells #[U64 xh, U64 xl] 186)) 186 #[U64 yh, U64 yl]
  rw [show (w.alloc (.cells #[U64 xh, U64 xl] 186)).heap.size = X + 1 by simp [hX]] at this
  rw [← hw1]; exact (this.alloc _).alloc _
 have hzb : Blk w1 (X + 1 + 1 + 1) 186 #[U64 0, U64 0] := by
  have := Blk.new (((w.alloc (.cells #[U64 xh, U64 xl] 186)).alloc (.cells #[U64 yh, U64 yl] 186)).alloc (.cells #[.int .u64 0, .int .u64 0] 186)) 186 #[.int .u64 0, .int .u64 0]
  rw [show (((w.alloc (.cells #[U64 xh, U64 xl] 186)).alloc (.cells #[U64 yh, U64 yl] 186)).alloc (.cells #[.int .u64 0, .int .u64 0] 186)).heap.size = X + 1 + 1 + 1 by simp [hX]] at this
  rw [← hw1]; exact this
 have hrb : Blk w1 (X + 1 + 1) 186 #[U64 0, U64 0] := by
  have := Blk.new ((w.alloc (.cells #[U64 xh, U64 xl] 186)).alloc (.cells #[U64 yh, U64 yl] 186)) 186 #[.int .u64 0, .int .u64 0]
  rw [show ((w.alloc (.cells #[U64 xh, U64 xl] 186)).alloc (.cells #[U64 yh, U64 yl] 186)).heap.size = X + 1 + 1 by simp [hX]] at this
  rw [← hw1]; exact this.alloc _
 have hB : Below X w w1 := by
  rw [← hw1, ← hX]
  exact ((((Below.refl _ _).alloc (by simp) _).alloc (by simp) _).alloc (by simp; omega) _).alloc (by simp; omega) _
 have HH := Lib.hid (And.intro hxb (And.intro hyb (And.intro hzb (And.intro hrb hB))))
 clear hxb hyb hzb hrb hB hw1
 go_loopw [9] (fun iv wr => ∃ i : Nat, i ≤ 128 ∧ iv = .int .i64 (i : Int) ∧ Blk wr X 186 #[U64 xh, U64 xl] ∧ Blk wr (X + 1) 186 #[U64 (eF xh xl yh yl i).yh, U64 (eF xh xl yh yl i).yl] ∧ Blk wr (X + 1 + 1 + 1) 186 #[U64 (eF xh xl yh yl i).zh, U64 (eF xh xl yh yl i).zl] ∧ Blk wr (X + 1 + 1) 186 #[U64 0, U64 0] ∧ Below X w wr) (fun iv _ => 128 - (intOf iv).toNat)
 case atStart => exact ⟨0, by omega, rfl, HH.out.1, HH.out.2.1, HH.out.2.2.1, HH.out.2.2.2.1, HH.out.2.2.2.2⟩
 case round =>
  obtain ⟨i, hi, rfl, h1, h2, h3, h4, h5⟩ := hrel
  by_cases hlt : i < 128
  ·have hq : (i : Int) < 128 := by omega
   have hst : eF xh xl yh yl (i + 1) = eStep xh xl i (eF xh xl yh yl i) := rfl
   generalize eF xh xl yh yl i = s at *
   obtain ⟨zh, zl, vh, vl⟩ := s
   have x0 := h1.cell 0
   have x1 := h1.cell 1
   have y0 := h2.cell 0
   have y1 := h2.cell 1
   have z0 := h3.cell 0
   have z1 := h3.cell 1
   have fy0 := h2.frozen 0
   have fy1 := h2.frozen 1
   have fz0 := h3.frozen 0
   have fz1 := h3.frozen 1
   simp only [List.getElem?_toArray, List.getElem?_cons_zero, List.getElem?_cons_succ] at x0 x1 y0 y1 z0 z1
   obtain ⟨m, hm⟩ : ∃ m, m = i % 64 := ⟨_, rfl⟩
   have g0 : (i : Int).tmod 64 = (m : Int) := by rw [Int.tmod_eq_emod_of_nonneg (by omega)]; omega
   have g0' : (i : Int) % 64 = (m : Int) := by omega
   obtain ⟨sh, hsh⟩ : ∃ sh, sh = 63 - i % 64 := ⟨_, rfl⟩
   have hsh' : sh < 64 := by omega
   have g1 : IntKind.i64.wrap (63 - (m : Int)) = (sh : Int) := by rw [IntWalk.i64_in _ (by omega)]; omega
   have hbt : bitE xh xl i = (if 63 < i then xl >>> UInt64.ofNat sh else xh >>> UInt64.ofNat sh) &&& 1 := by unfold bitE; rw [hsh]
   have HS := Lib.hid (And.intro h1 (And.intro h2 (And.intro h3 (And.intro h4 (And.intro h5 (And.intro hst (And.intro hbt hm)))))))
   have fin : ∀ b : UInt64, _ := fun b => eRound (w := w) (X := X) h1 h2 h3 h4 h5 b
   clear h1 h2 h3 h4 h5 hst hbt hsh
   by_cases h63 : 63 < i
   ·have k1 : (63 : Int) < i := by omega
    have k2 : decide ((63 : Int) < i) = true := decide_eq_true k1
    clear hm
    go_wp2
    have hb : bitE xh xl i = xl >>> UInt64.ofNat sh &&& 1 := by rw [HS.out.2.2.2.2.2.2.1, if_pos h63]
    refine ⟨⟨i + 1, by omega, by go_num, ?_⟩, by simp [intOf]; omega⟩
    rw [HS.out.2.2.2.2.2.1]
    unfold eStep
    rw [hb]
    exact fin _
   ·have k1 : ¬ (63 : Int) < i := by omega
    have k2 : decide ((63 : Int) < i) = false := decide_eq_false k1
    clear hm
    go_wp2
    have hb : bitE xh xl i = xh >>> UInt64.ofNat sh &&& 1 := by rw [HS.out.2.2.2.2.2.2.1, if_neg h63]
    refine ⟨⟨i + 1, by omega, by go_num, ?_⟩, by simp [intOf]; omega⟩
    rw [HS.out.2.2.2.2.2.1]
    unfold eStep
    rw [hb]
    exact fin _
  ·obtain rfl : i = 128 := by omega
   have hq : ¬ ((128 : Int) < 128) := by omega
   generalize hs : eF xh xl yh yl 128 = s at *
   obtain ⟨zh, zl, vh, vl⟩ := s
   have Hs := Lib.hid hs
   clear hs
   have z0 := h3.cell 0
   have z1 := h3.cell 1
   have r0 := h4.cell 0
   have r1 := h4.cell 1
   have fr0 := h4.frozen 0
   have fr1 := h4.frozen 1
   simp only [List.getElem?_toArray, List.getElem?_cons_zero, List.getElem?_cons_succ] at z0 z1 r0 r1
   have HS := Lib.hid (And.intro h4 h5)
   clear h1 h2 h3 h4 h5 hi hlt
   go_wp2
   have hT : Turn [X + 1 + 1] wr ((wr.setCell ⟨X + 1 + 1, 0, none⟩ (U64 zh)).setCell ⟨X + 1 + 1, 1, none⟩ (U64 zl)) := ((Turn.refl _ _).setCell (.inl (by simp)) _).setCell (.inl (by simp)) _
   have hB5 := (HS.out.1.set_ 0 (U64 zh)).set_ 1 (U64 zl)
   have hc0 := hB5.cell 0
   have hc1 := hB5.cell 1
   simp only [List.setIfInBounds_toArray, List.set_cons_zero, List.set_cons_succ, List.getElem?_toArray, List.getElem?_cons_zero, List.getElem?_cons_succ] at hc0 hc1
   refine bodyPost_ret (v := .agg #[U64 zh, U64 zl]) ?_ rfl ⟨by rw [Hs.out], below_turn HS.out.2 hT (fun t ht => by simp at ht; omega) (by have := HS.out.1.lt; omega)⟩
   simp [results, Tryz.results158, go_sem, hc0, hc1]
end Go.Proofs.YtgjnmpjimhbfgaaGreatDoor
namespace Go.Proofs.YtgjnmpjimhbfgaaGreatDoor
set_option maxRecDepth 100000
open Go.RowKit
def rd16 (l : List UInt8) : UInt64 × UInt64 := (word64 l 0, word64 (l.drop 8) 0)
def wr16 (h l : UInt64) : List UInt8 := bytes64 h ++ bytes64 l
set_option maxHeartbeats 1000000 in
theorem eread_any (b off c : Nat) (l : List UInt8) (w : World) (h : At w b off l) (hl : l.length = 16) (hc : 16 ≤ c) :
  Calls Tryz.prog 157 #[.slice (some ⟨b, off, none⟩) 16 c] w fun e w' => e = .returned (El (rd16 l).1 (rd16 l).2) ∧ Below w.heap.size w w' := by
 obtain ⟨w1, hw1⟩ : ∃ w1, w.alloc (.cells #[.int .u64 0, .int .u64 0] 186) = w1 := ⟨_, rfl⟩
 have hb1 : Below w.heap.size w w1 := by rw [← hw1]; exact (Below.refl _ _).alloc (Nat.le_refl _) _
 have hR : Blk w1 w.heap.size 186 #[.int .u64 0, .int .u64 0] := by rw [← hw1]; exact Blk.new _ _ _
 have hz1 : w1.heap.size = w.heap.size + 1 := by rw [← hw1]; simp
 have hlt := h.1
 have hAt : ∀ wq, Turn [w.heap.size] w1 wq → At wq b off l := fun wq hq =>
  (h.keep hb1.size (hb1.block b hlt)).keep hq.size (hq.block b (by omega) (by simp; omega))
 have hG1 : ∀ wq, Turn [w.heap.size] w1 wq → Calls Tryz.prog 90 #[.slice (some ⟨b, off, none⟩) 16 c] wq fun e w' => e = .returned (U64 (word64 l 0)) ∧ ∃ k, w' = wq.drewN k := fun wq hq => get64_any b off 16 c l wq (hAt wq hq) hl.symm (by omega)
 have hG2 : ∀ wq, Turn [w.heap.size] w1 wq → Calls Tryz.prog 90 #[.slice (some ⟨b, off + 8, none⟩) 8 (c - 8)] wq fun e w' => e = .returned (U64 (word64 (l.drop 8) 0)) ∧ ∃ k, w' = wq.drewN k := fun wq hq => get64_any b (off + 8) 8 (c - 8) (l.drop 8) wq ((hAt wq hq).drop 8) (by simp [hl]) (by omega)
 have hr : ∀ wq, Old w1 wq → wq.cell? ⟨w.heap.size, 0, none⟩ = some (.int .u64 0) ∧ wq.cell? ⟨w.heap.size, 1, none⟩ = some (.int .u64 0) ∧ wq.frozen? ⟨w.heap.size, 0, none⟩ = false ∧ wq.frozen? ⟨w.heap.size, 1, none⟩ = false := fun wq hq => by
  have hb := hR.below hq
  have a0 := hb.cell 0
  have a1 := hb.cell 1
  simp only [List.getElem?_toArray, List.getElem?_cons_zero, List.getElem?_cons_succ] at a0 a1
  exact ⟨a0, a1, hb.frozen 0, hb.frozen 1⟩
 have hfin : ∀ (a : Array Value) (wq : World), Old w1 wq → Turn [w.heap.size] w1 ((wq.setCell ⟨w.heap.size, 0, none⟩ (U64 (word64 l 0))).setCell ⟨w.heap.size, 1, none⟩ (U64 (word64 (l.drop 8) 0))) → a.getD 2 undef = .pointer (some ⟨w.heap.size, 0, none⟩) →
   bodyPost Tryz.prog Tryz.f157 (fun e w' => e = .returned (El (rd16 l).1 (rd16 l).2) ∧ Below w.heap.size w w') .ret { tmps := a, defers := [] } ((wq.setCell ⟨w.heap.size, 0, none⟩ (U64 (word64 l 0))).setCell ⟨w.heap.size, 1, none⟩ (U64 (word64 (l.drop 8) 0))) := fun a wq ho ht ha => by
  have hB5 := ((hR.below ho).set_ 0 (U64 (word64 l 0))).set_ 1 (U64 (word64 (l.drop 8) 0))
  have hc0 := hB5.cell 0
  have hc1 := hB5.cell 1
  simp only [List.setIfInBounds_toArray, List.set_cons_zero, List.set_cons_succ, List.getElem?_toArray, List.getElem?_cons_zero, List.getElem?_cons_succ] at hc0 hc1
  refine bodyPost_ret (v := .agg #[U64 (word64 l 0), U64 (word64 (l.drop 8) 0)]) ?_ rfl ⟨rfl, below_turn hb1 ht (by simp) hb1.size⟩
  have ha' : a[2]?.getD undef = .pointer (some ⟨w.heap.size, 0, none⟩) := by simpa using ha
  simp [results, Tryz.results157, go_sem, hc0, hc1, ha']
 have HG1 := Lib.hid hG1
 have HG2 := Lib.hid hG2
 have HR := Lib.hid hr
 have fin := hfin
 have c8 : ¬ c = 8 := by omega
 have c8' : 8 ≤ c := by omega
 have c16 : (16 : Int) ≤ c := by omega
 clear hG1 hG2 hr hfin hAt hR hb1 h hl
 have Fin := Lib.hid fin
 clear fin
 go_enter Tryz.func157, Tryz.ntmps157
 go_upto_region 1 with fail
 clear hw1
 refine region_turn [w.heap.size] (by kernel_rfl) (fun wd hOld hHeld hSz => ?_)
 have HOL := Lib.hid hOld
 clear hOld
 refine tkS 0 hHeld ?_
 refine tkS 2 hHeld ?_
 refine tkS 3 hHeld ?_
 refine rdL 1 (fun K hK => ?_)
 go_simp
 refine (HG1.out _ hHeld).mono ?_; rintro e wq ⟨rfl, k1, rfl⟩
 refine hK.out _ _ (hHeld.drewN _) (fun hHeld => ?_)
 clear hK K
 try simp only [Act.put, sA, sB, sC]
 refine rdL 4 (fun K hK => ?_)
 go_simp
 refine (HG2.out _ hHeld).mono ?_; rintro e wq ⟨rfl, k2, rfl⟩
 refine hK.out _ _ (hHeld.drewN _) (fun hHeld => ?_)
 clear hK K
 try simp only [Act.put, sA, sB, sC]
 refine tkS 5 hHeld ?_
 obtain ⟨r0, r1, f0, f1⟩ := HR.out _ HOL.out
 refine rdL 6 (fun K hK => ?_)
 go_simp
 refine hK.out _ _ (((Turn.of_below [w.heap.size] ((Old.drewN HOL.out _))).setCell (p := ⟨w.heap.size, 0, none⟩) (.inl (by simp)) _).setCell (p := ⟨w.heap.size, 1, none⟩) (.inl (by simp)) _) (fun hHeld => ?_)
 clear hK K
 try simp only [Act.put, sA, sB, sC]
 refine wpAnyH_done (by kernel_rfl) ?_ _
 refine NoPanic.normal ?_
 have HH2 := Lib.hid hHeld
 clear r0 r1 f0 f1 hHeld
 go_wp2_with fail
 exact Fin.out _ _ (Old.drewN HOL.out _) HH2.out rfl
set_option maxHeartbeats 1000000 in
theorem ewrite_any (h l : UInt64) (w : World) :
  Calls Tryz.prog 159 #[El h l] w fun e w' => ∃ g c, e = .returned (.slice (some ⟨g, 0, none⟩) 16 c) ∧ Own w' w.heap.size (.slice (some ⟨g, 0, none⟩) 16 c) (wr16 h l) ∧ Below w.heap.size w w' := by
 obtain ⟨w1, hw1⟩ : ∃ w1, w.alloc (.cells #[U64 h, U64 l] 186) = w1 := ⟨_, rfl⟩
 have hb1 : Below w.heap.size w w1 := by rw [← hw1]; exact (Below.refl _ _).alloc (Nat.le_refl _) _
 have hR : Blk w1 w.heap.size 186 #[U64 h, U64 l] := by rw [← hw1]; exact Blk.new _ _ _
 have hz1 : w1.heap.size = w.heap.size + 1 := by rw [← hw1]; simp
 have hr : ∀ wq, Old w1 wq → wq.cell? ⟨w.heap.size, 0, none⟩ = some (U64 h) ∧ wq.cell? ⟨w.heap.size, 1, none⟩ = some (U64 l) := fun wq hq => by
  have hb := hR.below hq
  have a0 := hb.cell 0
  have a1 := hb.cell 1
  simp only [List.getElem?_toArray, List.getElem?_cons_zero, List.getElem?_cons_succ] at a0 a1
  exact ⟨a0, a1⟩
 have HR := Lib.hid hr
 have HB1 := Lib.hid hb1
 clear hr hR hb1
 unfold El
 go_enter Tryz.func159, Tryz.ntmps159
 go_upto_region 1 with fail
 clear hw1
 refine region_old (by kernel_rfl) (fun wd hHeld hSz => ?_)
 have HSz := Lib.hid hSz
 clear hSz
 refine tkS 0 hHeld ?_
 refine tkS 1 hHeld ?_ (hy := by intro wq hSw; obtain ⟨a0, a1⟩ := HR.out wq hSw; clear hSw; go_simp; try with_reducible rfl)
 refine tkS 3 hHeld ?_
 refine tkS 4 hHeld ?_ (hy := by intro wq hSw; obtain ⟨a0, a1⟩ := HR.out wq hSw; clear hSw; go_simp; try with_reducible rfl)
 have hbw : w1.heap.size ≤ wd.heap.size := hHeld.size
 refine rdL 2 (fun K hK => ?_)
 go_simp
 refine (append64_any (.slice none 0 0) h [] wd w1.heap.size (World.ownsRow_nil _ _ _ _) hbw (by simp)).mono ?_
 rintro e wx ⟨v1, rfl, ho1, ht1, hv1⟩
 have hHeld' : Old w1 wx := below_turn hHeld ht1 (fun t ht => by simp [Value.ownBlock] at ht) hHeld.size
 refine hK.out _ _ hHeld' (fun hHeld => ?_)
 clear hK K hHeld'
 try simp only [Act.put, sA, sB, sC]
 rw [List.nil_append] at ho1
 have hO1 := Lib.hid ho1
 clear ho1 ht1
 refine rdL 5 (fun K hK => ?_)
 go_simp
 refine (append64_any v1 l (bytes64 h) wx w1.heap.size hO1.out hHeld.size (by simp [bytes64])).mono ?_
 rintro e wy ⟨v2, rfl, ho2, ht2, hv2⟩
 have hHeld' : Old w1 wy := below_turn hHeld ht2 (fun t ht => (hO1.out.lt (show v1.ownBlock = some t by simpa using ht)).1) hHeld.size
 refine hK.out _ _ hHeld' (fun hHeld => ?_)
 clear hK K hHeld'
 try simp only [Act.put, sA, sB, sC]
 obtain ⟨g, c, rfl⟩ := ho2.form hv2
 have hO2 := Lib.hid ho2
 clear ho2 ht2 hv2 hv1
 refine tkS 6 hHeld ?_
 refine wpAnyH_done (by kernel_rfl) ?_ _
 refine NoPanic.normal ?_
 have HH := Lib.hid hHeld
 clear hHeld
 go_wp2_with fail
 go_ret
 exact ⟨g, c, rfl, hO2.out.mono (by omega), HB1.out.trans (HH.out.mono (by omega))⟩
def ghS (hh hl : UInt64) : Nat → List UInt8 → UInt64 × UInt64 → UInt64 × UInt64
 | 0, _, y => y
 | n + 1, r, y => if r = [] then y else
   ghS hh hl n (r.drop 16) ((eF (y.1 ^^^ (rd16 (splice (zs 16) 0 (r.take 16))).1) (y.2 ^^^ (rd16 (splice (zs 16) 0 (r.take 16))).2) hh hl 128).zh, (eF (y.1 ^^^ (rd16 (splice (zs 16) 0 (r.take 16))).1) (y.2 ^^^ (rd16 (splice (zs 16) 0 (r.take 16))).2) hh hl 128).zl)
def gh (h b : List UInt8) : List UInt8 := wr16 (ghS (rd16 h).1 (rd16 h).2 b.length b (0, 0)).1 (ghS (rd16 h).1 (rd16 h).2 b.length b (0, 0)).2
def sliceLen_q : Value → Nat
 | .slice _ n _ => n
 | _ => 0
set_option maxHeartbeats 4000000 in
theorem gh_any (A C : Option Addr) (ca m cc : Nat) (h b : List UInt8) (w : World) (hx : Rd w A 16 ca h) (hy : Rd w C m cc b) :
  Calls Tryz.prog 137 #[.slice A 16 ca, .slice C m cc] w fun e w' => ∃ g c, e = .returned (.slice (some ⟨g, 0, none⟩) 16 c) ∧ Own w' w.heap.size (.slice (some ⟨g, 0, none⟩) 16 c) (gh h b) ∧ Below w.heap.size w w' := by
 have hxl := hx.1.symm
 have hca := hx.2.1
 have hml := hy.1
 have hmc := hy.2.2.1
 have hmm := hy.2.1
 unfold maxLen at hmc
 have hlt : ∀ ad, C = some ad → ad.block < w.heap.size := fun ad had => hy.lt ad had
 obtain ⟨bx, ox, rfl, hax⟩ := hx.addr (by omega)
 have hrd := eread_any bx ox ca h w hax hxl hca
 obtain ⟨hh, hhh⟩ : ∃ hh, hh = (rd16 h).1 := ⟨_, rfl⟩
 obtain ⟨hl, hhl⟩ : ∃ hl, hl = (rd16 h).2 := ⟨_, rfl⟩
 rw [← hhh, ← hhl] at hrd
 have hfin : gh h b = wr16 (ghS hh hl b.length b (0, 0)).1 (ghS hh hl b.length b (0, 0)).2 := by unfold gh; rw [hhh, hhl]
 rw [hfin]
 unfold El at hrd
 have HRd := Lib.hid hrd
 have HX := Lib.hid (And.intro hy (And.intro hlt hml))
 clear hx hax hxl hrd hhh hhl hfin hlt hy
 go_enter Tryz.func137, Tryz.ntmps137
 go_wp2_with fail
 refine HRd.out.mono ?_
 rintro e w1 ⟨rfl, hb1⟩
 have HB1 := Lib.hid hb1
 clear hb1 HRd
 go_wp2_with fail
 obtain ⟨wA, hwA⟩ : ∃ wA, (w1.alloc (.cells #[U64 hh, U64 hl] 186)).alloc (.cells #[.int .u64 0, .int .u64 0] 186) = wA := ⟨_, rfl⟩
 have hhb : Blk wA w1.heap.size 186 #[U64 hh, U64 hl] := by rw [← hwA]; exact (Blk.new _ _ _).alloc _
 have hyb : Blk wA (w1.heap.size + 1) 186 #[U64 0, U64 0] := by
  have := Blk.new (w1.alloc (.cells #[U64 hh, U64 hl] 186)) 186 #[.int .u64 0, .int .u64 0]
  rw [show (w1.alloc (.cells #[U64 hh, U64 hl] 186)).heap.size = w1.heap.size + 1 by simp] at this
  rw [← hwA]; exact this
 have hbA : Below w.heap.size w wA := by rw [← hwA]; exact (HB1.out.alloc HB1.out.size _).alloc (by simp; have := HB1.out.size; omega) _
 rw [hwA]
 clear hwA
 have hX := HB1.out.size
 generalize w1.heap.size = X at *
 have hrA : Rd wA C b.length cc b := by have := HX.out.1.below hbA; rw [hml] at this; exact this
 have HA := Lib.hid (And.intro hhb (And.intro hyb (And.intro hbA hrA)))
 clear hhb hyb hbA hrA
 go_loopw [1] (fun bv wr => ∃ (A' : Option Addr) (n' c' : Nat) (r : List UInt8) (yh yl : UInt64) (fuel : Nat), bv = .slice A' n' c' ∧ n' ≤ 9223372036854775807 ∧ Rd wr A' n' c' r ∧ (∀ ad, A' = some ad → ad.block < w.heap.size) ∧ Blk wr X 186 #[U64 hh, U64 hl] ∧ Blk wr (X + 1) 186 #[U64 yh, U64 yl] ∧ Below w.heap.size w wr ∧ r.length ≤ fuel ∧ ghS hh hl fuel r (yh, yl) = ghS hh hl b.length b (0, 0)) (fun bv _ => sliceLen_q bv)
 case atStart => exact ⟨C, b.length, cc, b, 0, 0, b.length, rfl, by omega, HA.out.2.2.2, HX.out.2.1, HA.out.1, HA.out.2.1, HA.out.2.2.1, Nat.le_refl _, rfl⟩
 case round =>
  obtain ⟨A', n', c', r, yh, yl, fuel, rfl, hn63, hr, hal, hH, hY, hB, hf, hg⟩ := hrel
  have hrl := hr.1
  have hnc := hr.2.1
  have hcm := hr.2.2.1
  unfold maxLen at hcm
  by_cases hn : 0 < n'
  ·have hn0 : (0 : Int) < n' := by omega
   have hn0' : decide ((0 : Int) < n') = true := decide_eq_true hn0
   obtain ⟨bb, off, rfl, ha⟩ := hr.addr hn
   obtain ⟨k, hk⟩ : ∃ k, min n' 16 = k := ⟨_, rfl⟩
   have hk1 : k ≤ n' := by omega
   have hk16 : k ≤ 16 := by omega
   have hk0 : 0 < k := by omega
   have hki : (k : Int) ≤ n' := by omega
   have hkc : (k : Int) ≤ c' := by omega
   have hnci : (n' : Int) ≤ c' := by omega
   have hd : r.drop k = r.drop 16 := by
    by_cases h16 : 16 ≤ n'
    ·have : k = 16 := by omega
     rw [this]
    ·rw [List.drop_eq_nil_of_le (by omega), List.drop_eq_nil_of_le (by omega)]
   have hrne : r ≠ [] := fun e => by rw [e] at hrl; simp at hrl; omega
   obtain ⟨f', rfl⟩ : ∃ f', fuel = f' + 1 := ⟨fuel - 1, by omega⟩
   have hstep : ghS hh hl (f' + 1) r (yh, yl) = ghS hh hl f' (r.drop 16) ((eF (yh ^^^ (rd16 (splice (zs 16) 0 (r.take 16))).1) (yl ^^^ (rd16 (splice (zs 16) 0 (r.take 16))).2) hh hl 128).zh, (eF (yh ^^^ (rd16 (splice (zs 16) 0 (r.take 16))).1) (yl ^^^ (rd16 (splice (zs 16) 0 (r.take 16))).2) hh hl 128).zl) := by
    show (if r = [] then _ else _) = _
    rw [if_neg hrne]
   obtain ⟨P, hP⟩ : ∃ P, P = splice (zs 16) 0 (r.take 16) := ⟨_, rfl⟩
   rw [← hP] at hstep
   have hbl : bb < w.heap.size := hal _ rfl
   have hXr : X + 1 < wr.heap.size := hY.lt
   have hcutk := hr.cut hk1
   rw [hd] at hcutk
   have hZ := st_new wr
   have hra := hr.below ((Below.refl wr.heap.size wr).alloc (Nat.le_refl _) (.cells Z16 153))
   have hHa := hH.alloc (.cells Z16 153)
   have hYa := hY.alloc (.cells Z16 153)
   have hBa := hB.alloc hB.size (.cells Z16 153)
   unfold Z16 at hZ hra hHa hYa hBa
   have HQ := Lib.hid (And.intro hZ (And.intro hra (And.intro hHa (And.intro hYa (And.intro hBa (And.intro hcutk (And.intro (hstep.symm.trans hg) (And.intro hP hk))))))))
   have hsz : (wr.alloc (.cells #[.int .u8 0, .int .u8 0, .int .u8 0, .int .u8 0, .int .u8 0, .int .u8 0, .int .u8 0, .int .u8 0, .int .u8 0, .int .u8 0, .int .u8 0, .int .u8 0, .int .u8 0, .int .u8 0, .int .u8 0, .int .u8 0] 153)).heap.size = wr.heap.size + 1 := by simp
   have HSz := Lib.hid hsz
   have HF := Lib.hid hf
   have HBr := Lib.hid hB
   have HRl := Lib.hid hrl
   have ht16 : (r.take 16) = r.take 16 := rfl
   clear hrl
   clear hZ hra hHa hYa hBa hcutk hstep hg hP hk hd hr hH hY hB ha hrne hsz hf
   have hwX : w.heap.size ≤ wr.heap.size := by omega
   by_cases hck : c' = k
   ·have HC := HQ.out.2.2.2.2.2.1
    rw [if_pos hck] at HC
    have HC := Lib.hid HC
    go_wp2_with (refine wp_copySt rfl (.tmp 18) (.tmp 19) rfl wr.heap.size 0 16 16 (zs 16) HQ.out.1 rfl (by omega) (some ⟨bb, off, none⟩) n' c' r rfl HQ.out.2.1 hn (by omega) ?_; intro wv hv hTv; rw [HQ.out.2.2.2.2.2.2.2.2]; rw [← HQ.out.2.2.2.2.2.2.2.1] at hv; have HV := Lib.hid (And.intro hv hTv); clear hv hTv)
    have hrp := eread_any wr.heap.size 0 16 P wv ⟨HV.out.1.lt, fun k x hx => by rw [Nat.zero_add]; exact HV.out.1.cell k x hx⟩ HV.out.1.1 (Nat.le_refl _)
    obtain ⟨ph, hph⟩ : ∃ ph, ph = (rd16 P).1 := ⟨_, rfl⟩
    obtain ⟨pl, hpl⟩ : ∃ pl, pl = (rd16 P).2 := ⟨_, rfl⟩
    rw [← hph, ← hpl] at hrp
    unfold El at hrp
    have hgg := HQ.out.2.2.2.2.2.2.1
    rw [← hph, ← hpl] at hgg
    have HG := Lib.hid hgg
    have HRp := Lib.hid hrp
    clear hph hpl hgg hrp
    refine HRp.out.mono ?_
    rintro e w6 ⟨rfl, hb6⟩
    have hs6 : wr.heap.size ≤ w6.heap.size := by have a1 := HV.out.2.size; have a2 := hb6.size; have a3 := HSz.out; omega
    have hH6 := (HQ.out.2.2.1.turn HV.out.2 (by simp; omega)).below hb6
    have hY6 := (HQ.out.2.2.2.1.turn HV.out.2 (by simp; omega)).below hb6
    have hBv := below_turn HQ.out.2.2.2.2.1 HV.out.2 (by simp; omega) HQ.out.2.2.2.2.1.size
    have hB6 := hBv.trans (hb6.mono hBv.size)
    have y0 := hY6.cell 0
    have y1 := hY6.cell 1
    have h0 := hH6.cell 0
    have h1 := hH6.cell 1
    simp only [List.getElem?_toArray, List.getElem?_cons_zero, List.getElem?_cons_succ] at y0 y1 h0 h1
    have l1 := hY6.lt
    have l0 : X < w6.heap.size := by omega
    have H6 := Lib.hid (And.intro hH6 (And.intro hY6 hB6))
    clear hH6 hY6 hBv hB6 hb6 HRp
    have hTm := fun w => etimes_any (yh ^^^ ph) (yl ^^^ pl) hh hl w
    generalize eF (yh ^^^ ph) (yl ^^^ pl) hh hl 128 = s at *
    unfold El at hTm
    have HTm := Lib.hid hTm
    clear hTm
    go_wp2_with (go_at_call 158; refine (HTm.out _).mono ?_; rintro e w7 ⟨rfl, hb7⟩; have hal7 := (Below.refl w6.heap.size w6).alloc (Nat.le_refl _) (.cells #[U64 ph, U64 pl] 186); have hb67 := hal7.trans (hb7.mono hal7.size); have hY7 := H6.out.2.1.below hb67; have hH7 := H6.out.1.below hb67; have hB7 := H6.out.2.2.trans (hb67.mono H6.out.2.2.size); have v0 := hY7.cell 0; have v1 := hY7.cell 1; simp only [List.getElem?_toArray, List.getElem?_cons_zero, List.getElem?_cons_succ] at v0 v1; have f0 := hY7.frozen 0; have f1 := hY7.frozen 1; have hs7 := hb67.size; have H7 := Lib.hid (And.intro hH7 (And.intro hY7 hB7)); clear hal7 hb67 hY7 hH7 hB7 hb7 y0 y1 h0 h1)
    have hT9 : Turn [X + 1] w7 ((w7.setCell ⟨X + 1, 0, none⟩ (U64 s.zh)).setCell ⟨X + 1, 1, none⟩ (U64 s.zl)) := ((Turn.refl _ _).setCell (.inl (by simp)) _).setCell (.inl (by simp)) _
    have hB9 := below_turn H7.out.2.2 hT9 (by simp; omega) H7.out.2.2.size
    have hrB : ∀ {A2 : Option Addr} {n2 c2 : Nat} {l2 : List UInt8}, Rd wr A2 n2 c2 l2 → (∀ ad, A2 = some ad → ad.block < w.heap.size) → Rd ((w7.setCell ⟨X + 1, 0, none⟩ (U64 s.zh)).setCell ⟨X + 1, 1, none⟩ (U64 s.zl)) A2 n2 c2 l2 := fun hr2 hb2 => by
     refine hr2.keep ?_ (fun ad had => ?_)
     ·have a1 := hT9.size
      omega
     ·have b1 := hB9.block ad.block (hb2 ad had)
      have b2 := HBr.out.block ad.block (hb2 ad had)
      rw [b1, b2]
    have hfin : (r.drop 16).length ≤ f' := by have := HF.out; rw [List.length_drop]; have := HRl.out; omega
    go_roundw
    case rel => exact ⟨some ⟨bb, off, none⟩, n' - k, c' - k, r.drop 16, s.zh, s.zl, f', by first | rfl | simp [hck], by omega, hrB HC.out hal, hal, H7.out.1.far (by show X ≠ X + 1; omega) _ |>.far (by show X ≠ X + 1; omega) _, (H7.out.2.1.set_ 0 _).set_ 1 _, hB9, hfin, HG.out⟩
    case measure => simp [sliceLen_q]; omega
   ·have HC := HQ.out.2.2.2.2.2.1
    rw [if_neg hck] at HC
    simp only [Option.map_some, Addr.add_mid] at HC
    have HC := Lib.hid HC
    go_wp2_with (refine wp_copySt rfl (.tmp 18) (.tmp 19) rfl wr.heap.size 0 16 16 (zs 16) HQ.out.1 rfl (by omega) (some ⟨bb, off, none⟩) n' c' r rfl HQ.out.2.1 hn (by omega) ?_; intro wv hv hTv; rw [HQ.out.2.2.2.2.2.2.2.2]; rw [← HQ.out.2.2.2.2.2.2.2.1] at hv; have HV := Lib.hid (And.intro hv hTv); clear hv hTv)
    have hrp := eread_any wr.heap.size 0 16 P wv ⟨HV.out.1.lt, fun k x hx => by rw [Nat.zero_add]; exact HV.out.1.cell k x hx⟩ HV.out.1.1 (Nat.le_refl _)
    obtain ⟨ph, hph⟩ : ∃ ph, ph = (rd16 P).1 := ⟨_, rfl⟩
    obtain ⟨pl, hpl⟩ : ∃ pl, pl = (rd16 P).2 := ⟨_, rfl⟩
    rw [← hph, ← hpl] at hrp
    unfold El at hrp
    have hgg := HQ.out.2.2.2.2.2.2.1
    rw [← hph, ← hpl] at hgg
    have HG := Lib.hid hgg
    have HRp := Lib.hid hrp
    clear hph hpl hgg hrp
    refine HRp.out.mono ?_
    rintro e w6 ⟨rfl, hb6⟩
    have hs6 : wr.heap.size ≤ w6.heap.size := by have a1 := HV.out.2.size; have a2 := hb6.size; have a3 := HSz.out; omega
    have hH6 := (HQ.out.2.2.1.turn HV.out.2 (by simp; omega)).below hb6
    have hY6 := (HQ.out.2.2.2.1.turn HV.out.2 (by simp; omega)).below hb6
    have hBv := below_turn HQ.out.2.2.2.2.1 HV.out.2 (by simp; omega) HQ.out.2.2.2.2.1.size
    have hB6 := hBv.trans (hb6.mono hBv.size)
    have y0 := hY6.cell 0
    have y1 := hY6.cell 1
    have h0 := hH6.cell 0
    have h1 := hH6.cell 1
    simp only [List.getElem?_toArray, List.getElem?_cons_zero, List.getElem?_cons_succ] at y0 y1 h0 h1
    have l1 := hY6.lt
    have l0 : X < w6.heap.size := by omega
    have H6 := Lib.hid (And.intro hH6 (And.intro hY6 hB6))
    clear hH6 hY6 hBv hB6 hb6 HRp
    have hTm := fun w => etimes_any (yh ^^^ ph) (yl ^^^ pl) hh hl w
    generalize eF (yh ^^^ ph) (yl ^^^ pl) hh hl 128 = s at *
    unfold El at hTm
    have HTm := Lib.hid hTm
    clear hTm
    go_wp2_with (go_at_call 158; refine (HTm.out _).mono ?_; rintro e w7 ⟨rfl, hb7⟩; have hal7 := (Below.refl w6.heap.size w6).alloc (Nat.le_refl _) (.cells #[U64 ph, U64 pl] 186); have hb67 := hal7.trans (hb7.mono hal7.size); have hY7 := H6.out.2.1.below hb67; have hH7 := H6.out.1.below hb67; have hB7 := H6.out.2.2.trans (hb67.mono H6.out.2.2.size); have v0 := hY7.cell 0; have v1 := hY7.cell 1; simp only [List.getElem?_toArray, List.getElem?_cons_zero, List.getElem?_cons_succ] at v0 v1; have f0 := hY7.frozen 0; have f1 := hY7.frozen 1; have hs7 := hb67.size; have H7 := Lib.hid (And.intro hH7 (And.intro hY7 hB7)); clear hal7 hb67 hY7 hH7 hB7 hb7 y0 y1 h0 h1)
    have hT9 : Turn [X + 1] w7 ((w7.setCell ⟨X + 1, 0, none⟩ (U64 s.zh)).setCell ⟨X + 1, 1, none⟩ (U64 s.zl)) := ((Turn.refl _ _).setCell (.inl (by simp)) _).setCell (.inl (by simp)) _
    have hB9 := below_turn H7.out.2.2 hT9 (by simp; omega) H7.out.2.2.size
    have hrB : ∀ {A2 : Option Addr} {n2 c2 : Nat} {l2 : List UInt8}, Rd wr A2 n2 c2 l2 → (∀ ad, A2 = some ad → ad.block < w.heap.size) → Rd ((w7.setCell ⟨X + 1, 0, none⟩ (U64 s.zh)).setCell ⟨X + 1, 1, none⟩ (U64 s.zl)) A2 n2 c2 l2 := fun hr2 hb2 => by
     refine hr2.keep ?_ (fun ad had => ?_)
     ·have a1 := hT9.size
      omega
     ·have b1 := hB9.block ad.block (hb2 ad had)
      have b2 := HBr.out.block ad.block (hb2 ad had)
      rw [b1, b2]
    have hfin : (r.drop 16).length ≤ f' := by have := HF.out; rw [List.length_drop]; have := HRl.out; omega
    go_roundw
    case rel => exact ⟨some ⟨bb, off + k, none⟩, n' - k, c' - k, r.drop 16, s.zh, s.zl, f', rfl, by omega, hrB HC.out (fun ad had => by cases had; exact hbl), (fun ad had => by cases had; exact hbl), H7.out.1.far (by show X ≠ X + 1; omega) _ |>.far (by show X ≠ X + 1; omega) _, (H7.out.2.1.set_ 0 _).set_ 1 _, hB9, hfin, HG.out⟩
    case measure => simp [sliceLen_q]; omega
  ·obtain rfl : n' = 0 := by omega
   have hr0 : r = [] := List.length_eq_zero_iff.1 hrl.symm
   have hgz : (yh, yl) = ghS hh hl b.length b (0, 0) := by
    rw [← hg, hr0]
    cases fuel <;> rfl
   have y0 := hY.cell 0
   have y1 := hY.cell 1
   simp only [List.getElem?_toArray, List.getElem?_cons_zero, List.getElem?_cons_succ] at y0 y1
   have hw : ∀ w, Calls Tryz.prog 159 #[.agg #[U64 yh, U64 yl]] w _ := fun w => by have := ewrite_any yh yl w; unfold El at this; exact this
   have HW := Lib.hid hw
   have HB := Lib.hid (And.intro hB hgz)
   clear hr hH hY hB hg hf hr0 hgz hw hal hrl hnc hcm hn63
   go_wp2_with (go_at_call 159; refine (HW.out _).mono ?_; rintro e w8 ⟨g, c, rfl, ho, hb8⟩; have HO := Lib.hid (And.intro ho hb8); clear ho hb8)
   go_ret
   exact ⟨g, c, rfl, by rw [← HB.out.2]; exact HO.out.1.mono HB.out.1.size, HB.out.1.trans (HO.out.2.mono HB.out.1.size)⟩
abbrev V := BitVec 128
def xs (f : Nat → V) : Nat → V
 | 0 => 0
 | n + 1 => xs f n ^^^ f n
theorem add_B (t : TypeId) (x y : UInt8) : binOp .add t (B x) (B y) = pure (B (x + y)) := by
 show (pure (.int .u8 (IntKind.u8.wrap (x.toNat + y.toNat))) : Sem Value) = _
 rw [wrap_u8, ← B_eq (x := x + y)]
 rw [UInt8.toNat_add]; simp
theorem addI_B (t : TypeId) (x : UInt8) (n : Int) (h0 : 0 ≤ n) (h : n < 256) : binOp .add t (B x) (.int .u8 n) = pure (B (x + UInt8.ofNat n.toNat)) := by
 obtain ⟨m, rfl⟩ := Int.eq_ofNat_of_zero_le h0
 rw [B_lit m (by omega), add_B]; rfl
def gT : Nat → UInt8 → UInt8 → UInt8
 | 0, _, _ => 0
 | n + 1, a, f => (if f.toNat % 2 = 1 then a else 0) ^^^ gT n (tw a) (f >>> 1)
theorem gmF_acc (n : Nat) : ∀ (a f o : UInt8), gmF n a f o = o ^^^ gT n a f := by
 induction n with
 | zero => intro a f o; simp [gmF, gT]
 | succ n ih =>
  intro a f o
  unfold gmF gT
  rw [ih]
  split
  ·rw [UInt8.xor_assoc]
  ·simp
theorem sr7 (a : UInt8) : a >>> 7 = 0 ∨ a >>> 7 = 1 := by
 revert a; refine all8 ?_; decide +kernel
theorem tw_xor (a b : UInt8) : tw (a ^^^ b) = tw a ^^^ tw b := by
 have h1 : (a ^^^ b) <<< 1 = a <<< 1 ^^^ b <<< 1 := UInt8.shiftLeft_xor
 have h2 : (a ^^^ b) >>> 7 = a >>> 7 ^^^ b >>> 7 := UInt8.shiftRight_xor
 unfold tw
 rw [h1, h2]
 rcases sr7 a with e | e <;> rcases sr7 b with f | f <;> rw [e, f]
 ·simp
 ·simp [UInt8.xor_assoc]
 ·simp [UInt8.xor_assoc]
  generalize a <<< 1 = x; generalize b <<< 1 = y
  rw [UInt8.xor_comm y]
 ·generalize a <<< 1 = x; generalize b <<< 1 = y
  have : ((1:UInt8) ^^^ 1) * 27 = 0 := by decide
  rw [this]
  simp [UInt8.xor_assoc]
  rw [UInt8.xor_comm 27, UInt8.xor_assoc]; simp
theorem gT_xor (n : Nat) : ∀ (a b f : UInt8), gT n (a ^^^ b) f = gT n a f ^^^ gT n b f := by
 induction n with
 | zero => intro a b f; simp [gT]
 | succ n ih =>
  intro a b f
  unfold gT
  rw [tw_xor, ih]
  split
  ·simp only [UInt8.xor_assoc]; congr 1; rw [← UInt8.xor_assoc, UInt8.xor_comm b, UInt8.xor_assoc]
  ·simp
theorem gm_xor (a b f : UInt8) : gm (a ^^^ b) f = gm a f ^^^ gm b f := by
 unfold gm; rw [gmF_acc, gmF_acc, gmF_acc, gT_xor]; simp
theorem gm_zero (f : UInt8) : gm 0 f = 0 := by
 revert f; refine all8 ?_; decide +kernel
theorem mp_ed0 (x : UInt8) : gm (gm x 2) 14 ^^^ gm (gm x 1) 11 ^^^ gm (gm x 1) 13 ^^^ gm (gm x 3) 9 = x := by revert x; refine all8 ?_; decide +kernel
theorem mp_ed1 (x : UInt8) : gm (gm x 3) 14 ^^^ gm (gm x 2) 11 ^^^ gm (gm x 1) 13 ^^^ gm (gm x 1) 9 = 0 := by revert x; refine all8 ?_; decide +kernel
theorem mp_ed2 (x : UInt8) : gm (gm x 1) 14 ^^^ gm (gm x 3) 11 ^^^ gm (gm x 2) 13 ^^^ gm (gm x 1) 9 = 0 := by revert x; refine all8 ?_; decide +kernel
theorem mp_ed3 (x : UInt8) : gm (gm x 1) 14 ^^^ gm (gm x 1) 11 ^^^ gm (gm x 3) 13 ^^^ gm (gm x 2) 9 = 0 := by revert x; refine all8 ?_; decide +kernel
theorem mix_list (x0 x1 x2 x3 x4 x5 x6 x7 x8 x9 x10 x11 x12 x13 x14 x15 f0 f1 f2 f3 : UInt8) : mixN [x0, x1, x2, x3, x4, x5, x6, x7, x8, x9, x10, x11, x12, x13, x14, x15] [f0, f1, f2, f3] 4 =
  [0 ^^^ gm x0 f0 ^^^ gm x1 f1 ^^^ gm x2 f2 ^^^ gm x3 f3, 0 ^^^ gm x0 f3 ^^^ gm x1 f0 ^^^ gm x2 f1 ^^^ gm x3 f2, 0 ^^^ gm x0 f2 ^^^ gm x1 f3 ^^^ gm x2 f0 ^^^ gm x3 f1, 0 ^^^ gm x0 f1 ^^^ gm x1 f2 ^^^ gm x2 f3 ^^^ gm x3 f0,
   0 ^^^ gm x4 f0 ^^^ gm x5 f1 ^^^ gm x6 f2 ^^^ gm x7 f3, 0 ^^^ gm x4 f3 ^^^ gm x5 f0 ^^^ gm x6 f1 ^^^ gm x7 f2, 0 ^^^ gm x4 f2 ^^^ gm x5 f3 ^^^ gm x6 f0 ^^^ gm x7 f1, 0 ^^^ gm x4 f1 ^^^ gm x5 f2 ^^^ gm x6 f3 ^^^ gm x7 f0,
   0 ^^^ gm x8 f0 ^^^ gm x9 f1 ^^^ gm x10 f2 ^^^ gm x11 f3, 0 ^^^ gm x8 f3 ^^^ gm x9 f0 ^^^ gm x10 f1 ^^^ gm x11 f2, 0 ^^^ gm x8 f2 ^^^ gm x9 f3 ^^^ gm x10 f0 ^^^ gm x11 f1, 0 ^^^ gm x8 f1 ^^^ gm x9 f2 ^^^ gm x10 f3 ^^^ gm x11 f0,
   0 ^^^ gm x12 f0 ^^^ gm x13 f1 ^^^ gm x14 f2 ^^^ gm x15 f3, 0 ^^^ gm x12 f3 ^^^ gm x13 f0 ^^^ gm x14 f1 ^^^ gm x15 f2, 0 ^^^ gm x12 f2 ^^^ gm x13 f3 ^^^ gm x14 f0 ^^^ gm x15 f1, 0 ^^^ gm x12 f1 ^^^ gm x13 f2 ^^^ gm x14 f3 ^^^ gm x15 f0] := rfl
theorem mc_ed0 (a b c d : UInt8) : 0 ^^^ gm (0 ^^^ gm a 2 ^^^ gm b 3 ^^^ gm c 1 ^^^ gm d 1) 14 ^^^ gm (0 ^^^ gm a 1 ^^^ gm b 2 ^^^ gm c 3 ^^^ gm d 1) 11 ^^^ gm (0 ^^^ gm a 1 ^^^ gm b 1 ^^^ gm c 2 ^^^ gm d 3) 13 ^^^ gm (0 ^^^ gm a 3 ^^^ gm b 1 ^^^ gm c 1 ^^^ gm d 2) 9 = a := by
 simp only [gm_xor, gm_zero]
 have h0 : ∀ y : UInt8, 0 ^^^ y = y := fun y => by simp
 simp only [h0]
 refine Eq.trans (b := (gm (gm a 2) 14 ^^^ gm (gm a 1) 11 ^^^ gm (gm a 1) 13 ^^^ gm (gm a 3) 9) ^^^ (gm (gm b 3) 14 ^^^ gm (gm b 2) 11 ^^^ gm (gm b 1) 13 ^^^ gm (gm b 1) 9) ^^^ (gm (gm c 1) 14 ^^^ gm (gm c 3) 11 ^^^ gm (gm c 2) 13 ^^^ gm (gm c 1) 9) ^^^ (gm (gm d 1) 14 ^^^ gm (gm d 1) 11 ^^^ gm (gm d 3) 13 ^^^ gm (gm d 2) 9)) (by ac_rfl) ?_
 rw [mp_ed0, mp_ed1, mp_ed2, mp_ed3]
 simp
theorem mc_ed1 (a b c d : UInt8) : 0 ^^^ gm (0 ^^^ gm a 2 ^^^ gm b 3 ^^^ gm c 1 ^^^ gm d 1) 9 ^^^ gm (0 ^^^ gm a 1 ^^^ gm b 2 ^^^ gm c 3 ^^^ gm d 1) 14 ^^^ gm (0 ^^^ gm a 1 ^^^ gm b 1 ^^^ gm c 2 ^^^ gm d 3) 11 ^^^ gm (0 ^^^ gm a 3 ^^^ gm b 1 ^^^ gm c 1 ^^^ gm d 2) 13 = b := by
 simp only [gm_xor, gm_zero]
 have h0 : ∀ y : UInt8, 0 ^^^ y = y := fun y => by simp
 simp only [h0]
 refine Eq.trans (b := (gm (gm a 1) 14 ^^^ gm (gm a 1) 11 ^^^ gm (gm a 3) 13 ^^^ gm (gm a 2) 9) ^^^ (gm (gm b 2) 14 ^^^ gm (gm b 1) 11 ^^^ gm (gm b 1) 13 ^^^ gm (gm b 3) 9) ^^^ (gm (gm c 3) 14 ^^^ gm (gm c 2) 11 ^^^ gm (gm c 1) 13 ^^^ gm (gm c 1) 9) ^^^ (gm (gm d 1) 14 ^^^ gm (gm d 3) 11 ^^^ gm (gm d 2) 13 ^^^ gm (gm d 1) 9)) (by ac_rfl) ?_
 rw [mp_ed3, mp_ed0, mp_ed1, mp_ed2]
 simp
theorem mc_ed2 (a b c d : UInt8) : 0 ^^^ gm (0 ^^^ gm a 2 ^^^ gm b 3 ^^^ gm c 1 ^^^ gm d 1) 13 ^^^ gm (0 ^^^ gm a 1 ^^^ gm b 2 ^^^ gm c 3 ^^^ gm d 1) 9 ^^^ gm (0 ^^^ gm a 1 ^^^ gm b 1 ^^^ gm c 2 ^^^ gm d 3) 14 ^^^ gm (0 ^^^ gm a 3 ^^^ gm b 1 ^^^ gm c 1 ^^^ gm d 2) 11 = c := by
 simp only [gm_xor, gm_zero]
 have h0 : ∀ y : UInt8, 0 ^^^ y = y := fun y => by simp
 simp only [h0]
 refine Eq.trans (b := (gm (gm a 1) 14 ^^^ gm (gm a 3) 11 ^^^ gm (gm a 2) 13 ^^^ gm (gm a 1) 9) ^^^ (gm (gm b 1) 14 ^^^ gm (gm b 1) 11 ^^^ gm (gm b 3) 13 ^^^ gm (gm b 2) 9) ^^^ (gm (gm c 2) 14 ^^^ gm (gm c 1) 11 ^^^ gm (gm c 1) 13 ^^^ gm (gm c 3) 9) ^^^ (gm (gm d 3) 14 ^^^ gm (gm d 2) 11 ^^^ gm (gm d 1) 13 ^^^ gm (gm d 1) 9)) (by ac_rfl) ?_
 rw [mp_ed2, mp_ed3, mp_ed0, mp_ed1]
 simp
theorem mc_ed3 (a b c d : UInt8) : 0 ^^^ gm (0 ^^^ gm a 2 ^^^ gm b 3 ^^^ gm c 1 ^^^ gm d 1) 11 ^^^ gm (0 ^^^ gm a 1 ^^^ gm b 2 ^^^ gm c 3 ^^^ gm d 1) 13 ^^^ gm (0 ^^^ gm a 1 ^^^ gm b 1 ^^^ gm c 2 ^^^ gm d 3) 9 ^^^ gm (0 ^^^ gm a 3 ^^^ gm b 1 ^^^ gm c 1 ^^^ gm d 2) 14 = d := by
 simp only [gm_xor, gm_zero]
 have h0 : ∀ y : UInt8, 0 ^^^ y = y := fun y => by simp
 simp only [h0]
 refine Eq.trans (b := (gm (gm a 3) 14 ^^^ gm (gm a 2) 11 ^^^ gm (gm a 1) 13 ^^^ gm (gm a 1) 9) ^^^ (gm (gm b 1) 14 ^^^ gm (gm b 3) 11 ^^^ gm (gm b 2) 13 ^^^ gm (gm b 1) 9) ^^^ (gm (gm c 1) 14 ^^^ gm (gm c 1) 11 ^^^ gm (gm c 3) 13 ^^^ gm (gm c 2) 9) ^^^ (gm (gm d 2) 14 ^^^ gm (gm d 1) 11 ^^^ gm (gm d 1) 13 ^^^ gm (gm d 3) 9)) (by ac_rfl) ?_
 rw [mp_ed1, mp_ed2, mp_ed3, mp_ed0]
 simp
theorem mix_ed (l : List UInt8) (h : l.length = 16) : mixN (mixN l [2, 3, 1, 1] 4) [14, 11, 13, 9] 4 = l := by
 obtain ⟨x0, x1, x2, x3, x4, x5, x6, x7, x8, x9, x10, x11, x12, x13, x14, x15, rfl⟩ := list16 l h
 rw [mix_list, mix_list]
 simp only [mc_ed0, mc_ed1, mc_ed2, mc_ed3]
theorem enc_list (x0 x1 x2 x3 x4 x5 x6 x7 x8 x9 x10 x11 x12 x13 x14 x15 : UInt8) : encN [x0, x1, x2, x3, x4, x5, x6, x7, x8, x9, x10, x11, x12, x13, x14, x15] 16 = [sb x0, sb x5, sb x10, sb x15, sb x4, sb x9, sb x14, sb x3, sb x8, sb x13, sb x2, sb x7, sb x12, sb x1, sb x6, sb x11] := rfl
theorem dec_list (x0 x1 x2 x3 x4 x5 x6 x7 x8 x9 x10 x11 x12 x13 x14 x15 : UInt8) : decN [x0, x1, x2, x3, x4, x5, x6, x7, x8, x9, x10, x11, x12, x13, x14, x15] 16 = [si x0, si x13, si x10, si x7, si x4, si x1, si x14, si x11, si x8, si x5, si x2, si x15, si x12, si x9, si x6, si x3] := rfl
theorem sub_ed (l : List UInt8) (h : l.length = 16) : decN (encN l 16) 16 = l := by
 obtain ⟨x0, x1, x2, x3, x4, x5, x6, x7, x8, x9, x10, x11, x12, x13, x14, x15, rfl⟩ := list16 l h
 rw [enc_list, dec_list]
 simp only [si_sb]
theorem xorL_back (l k : List UInt8) (h : l.length = k.length) : xorL (xorL l k) k = l := by
 unfold xorL
 induction l generalizing k with
 | nil => simp
 | cons x l ih =>
  cases k with
  | nil => simp at h
  | cons y k =>
   simp only [List.zipWith_cons_cons, UInt8.xor_assoc, UInt8.xor_self, UInt8.xor_zero]
   rw [ih k (by simpa using h)]
theorem encM_len (R i : Nat) (s : List UInt8) (h : s.length = 16) : (encM R i s).length = 16 := by
 unfold encM
 split
 ·split
  ·exact mixN_len _ _ (encN_len s 16) 4 (by omega)
  ·exact encN_len s 16
 ·exact h
theorem encF_len (ks : List UInt8) (R : Nat) (l : List UInt8) (hk : ks.length = 16 * R) (hl : l.length = 16) (i : Nat) (hi : i ≤ R) : (encF ks R l i).length = 16 := by
 induction i with
 | zero => exact hl
 | succ i ih =>
  unfold encF
  exact xorL_len _ _ 16 (encM_len R i _ (ih (by omega))) (key_len ks R i hk (by omega))
theorem decM_encM (R i : Nat) (s : List UInt8) (hi : 0 < i) (h : s.length = 16) : decN (decM R i (encM R i s)) 16 = s := by
 unfold decM encM
 rw [if_pos hi]
 by_cases hm : i < R - 1
 ·rw [if_pos hm, if_pos hm, mix_ed _ (encN_len s 16)]; exact sub_ed s h
 ·rw [if_neg hm, if_neg hm]; exact sub_ed s h
theorem dec_enc (ks : List UInt8) (R : Nat) (l : List UInt8) (hk : ks.length = 16 * R) (hl : l.length = 16) (i : Nat) (hi : i < R) : decF ks R i (encF ks R l (i + 1)) = l := by
 induction i with
 | zero =>
  show xorL (xorL (encM R 0 l) (key ks 0)) (key ks 0) = l
  rw [xorL_back _ _ (by rw [encM_len R 0 l hl, key_len ks R 0 hk hi])]
  unfold encM; rw [if_neg (by omega)]
 | succ i ih =>
  show decF ks R i (decN (decM R (i + 1) (xorL (xorL (encM R (i + 1) (encF ks R l (i + 1))) (key ks (i + 1))) (key ks (i + 1)))) 16) = l
  have hs := encF_len ks R l hk hl (i + 1) (by omega)
  rw [xorL_back _ _ (by rw [encM_len R (i + 1) _ hs, key_len ks R (i + 1) hk hi]), decM_encM R (i + 1) _ (by omega) hs]
  exact ih (by omega)
theorem dec_of_enc (ks : List UInt8) (R : Nat) (l : List UInt8) (hk : ks.length = 16 * R) (hR : 0 < R) (hl : l.length = 16) : decL ks R (encL ks R l) = l := by
 obtain ⟨r, rfl⟩ : ∃ r, R = r + 1 := ⟨R - 1, by omega⟩
 exact dec_enc ks (r + 1) l hk hl r (by omega)
theorem conv_i8 (k : Nat) (hk : k < 256) (w : World) : (convert 3 5 (.int .i64 (k : Int))).run Tryz.prog w = .ok (B (UInt8.ofNat k)) w := by
 rw [conv_int w .u8 Tryz.underlying3 Tryz.underlying5, wrap_u8]
 have : (UInt8.ofNat k).toNat = k := by simp; omega
 unfold B
 rw [this, Int.emod_eq_of_lt (by omega) (by omega)]
end Go.Proofs.YtgjnmpjimhbfgaaGreatDoor
