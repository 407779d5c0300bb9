/-
  Encrypt.
  Contracts of math/bits.RotateLeft32, RotateLeft64, zbyte.Get32, Get64, and of the reference's left, right, rightL, word.
-/
import Derived.Test.YtiocmebcbhbcmaaZzRange2
import Derived.Test.YtiocmebcbhbcmaaWords
namespace Go.Proofs.Ytiocmebcbhbcmaa
open Go.RowKit
attribute [local go_sem] Oper.semAt_some

def encN (l : List UInt8) : Nat → List UInt8
  | 0 => zs 16
  | j + 1 => (encN l j).set j (sb (l.getD (shp j) 0))
theorem encN_len (l : List UInt8) (j : Nat) : (encN l j).length = 16 := by
  induction j with
  | zero => rfl
  | succ j ih => unfold encN; rw [List.length_set]; exact ih
def encM (R i : Nat) (s : List UInt8) : List UInt8 := if 0 < i then (if i < R - 1 then mixN (encN s 16) [2, 3, 1, 1] 4 else encN s 16) else s
def encF (ks : List UInt8) (R : Nat) (l : List UInt8) : Nat → List UInt8
  | 0 => l
  | i + 1 => xorL (encM R i (encF ks R l i)) (key ks i)
def encL (ks : List UInt8) (R : Nat) (l : List UInt8) : List UInt8 := encF ks R l R
theorem region_roundTurn {P : Program} {ops : Array Oper} {Q : Exit → Act → World → Prop} {n l : Nat} {id : Nat} {a : Act} {w : World} (S : List Nat) (hd : noDefer ops = true) (hL : ¬ LetsOut Q) (hm : P.follows .mixedOrders = true)
    (h : ∀ wd, Old w wd → Turn S w wd → w.heap.size = wd.heap.size → wpAnyH P .any ops Q (Turn S w) ops.size (Array.replicate ops.size false) a wd) : (Code.region id ops true).wpIn (Fence.wide.inRound l) n P Q a w :=
  region_round hd hL hm (Turn.of_below S (Old.drew (Old.refl w))) (fun hS => h _ (Old.drew (Old.refl w)) hS rfl)
theorem wpListIn_store_arr {n l : Nat} {P : Program} {ops : Array Oper} {rest : List Oper} {op : Oper} {a : Act} {w : World} {Q : Exit → Act → World → Prop} (hgd : op.guard = none) (ty : TypeId) (x y : Operand) (ho : op.op = .store ty x y)
    (g : Nat) (t : TypeId) (cur : Array Value) (cs : List Value) (hb : Blk w g t cur) (hx : a.eval x = .pointer (some ⟨g, 0, none⟩)) (hy : a.eval y = .agg cs.toArray)
    (hi : (P.info? ty).map (·.size) = some cs.length) (hc : cur.size = cs.length) (h1 : cs.all (·.oneCell') = true)
    (h : ∀ w', Blk w' g t cs.toArray → Turn [g] w w' → wpListIn (Fence.wide.inRound l) n P ops Q rest (a.put op.dst undef) w') : wpListIn (Fence.wide.inRound l) n P ops Q (op :: rest) a w :=
  wpListIn_plain hgd fun _ hK => oper_round (by rw [ho]; intro c hc'; cases hc') (op_store_arr ty x y ho g t cur cs.toArray hb hx hy hi hc (all_oneCell_toArray (List.all_eq_true.1 h1)) fun w' h2 h3 => hK _ _ (h w' h2 h3))
theorem keyMine.turn2 {kb b0 c : Nat} {ks : List UInt8} {K R cp base k : Nat} {S : List Nat} {W W' : World} (h : keyMine kb b0 c ks K R cp base k W) (ht : Turn S W W') (n1 : kb ∉ S) (n2 : c ∉ S) (n3 : K ∉ S) (k' : Nat) : keyMine kb b0 c ks K R cp base k' W' := by
  obtain ⟨h1, h2, h3, h4, h5, h6⟩ := h
  refine ⟨h1.turn ht n1, ?_, Nat.le_trans h3 ht.size, h4, h5, h6⟩
  obtain ⟨c1, c2, c3, c4, c5, c6, c7, c8, c9, c10, c11⟩ := h2
  refine ⟨⟨c1.1, c1.2.1, c1.2.2.turn ht n2⟩, c2, c3, Nat.lt_of_lt_of_le c4 ht.size, c5, c6, c7, c8, c9, c10, fun j x hx => ?_⟩
  rw [World.cell?_of_block (a := ⟨K, j, none⟩) (ht.block K c4 n3)]; exact c11 j x hx
theorem keysOf_any (pv : Value) (w : World) (hp : pv.oneCell' = true) : Calls Try.prog 72 #[pv] w fun e w' =>
    e = .returned (.func (.func 84) #[] #[.pointer (some ⟨w.heap.size, 0, none⟩)]) ∧ w' = w.alloc (.cells #[pv] 56) := by
  go_enter Try.func72, Try.ntmps72
  go_wp2
  go_ret
  exact ⟨rfl, rfl⟩
set_option maxRecDepth 100000 in
set_option maxHeartbeats 4000000 in
theorem enc_any (b0 c : Nat) (ks : List UInt8) (K R cp : Nat) (A : Option Addr) (cb : Nat) (l : List UInt8) (w : World) (h : Cip w b0 c ks K R cp) (hr : Rd w A 16 cb l) :
    Calls Try.prog 47 #[.pointer (some ⟨c, 0, none⟩), .slice A 16 cb] w fun e w' => ∃ sb : Nat, e = .returned (.slice (some ⟨sb, 0, none⟩) 16 16) ∧ w.heap.size ≤ sb ∧ St w' sb (encL ks R l) ∧ Below w.heap.size w w' := by
  have hl : l.length = 16 := hr.1.symm
  obtain ⟨bb, off, rfl, ha⟩ := hr.addr (by omega)
  have hR1 : 11 ≤ R := h.2.2.2.2.2.2.1
  have hR2 : R ≤ 15 := h.2.2.2.2.2.2.2.1
  have hR2' : (R : Int) ≤ 15 := by omega
  have hR1' : (11 : Int) ≤ R := by omega
  have hclt := h.1.2.2.lt
  have hKlt := h.2.2.2.1
  obtain ⟨x0, x1, x2, x3, x4, x5, x6, x7, x8, x9, x10, x11, x12, x13, x14, x15, hl16⟩ := list16 l hl
  obtain ⟨wa, hwa⟩ : ∃ wa, w.alloc (.cells #[.pointer (some ⟨c, 0, none⟩)] 56) = wa := ⟨_, rfl⟩
  have hba : Below w.heap.size w wa := by rw [← hwa]; exact (Below.refl _ _).alloc (Nat.le_refl _) _
  have hza : wa.heap.size = w.heap.size + 1 := by rw [← hwa]; simp
  have hxa : Blk wa w.heap.size 56 #[.pointer (some ⟨c, 0, none⟩)] := by rw [← hwa]; exact Blk.new _ _ _
  have hrng : wa.rangeAt bb off [B x0, B x1, B x2, B x3, B x4, B x5, B x6, B x7, B x8, B x9, B x10, B x11, B x12, B x13, B x14, B x15] := fun j v hv => by
    have hv' : (l.map B)[j]? = some v := by rw [hl16]; exact hv
    rw [List.getElem?_map] at hv'
    obtain ⟨x, hx, rfl⟩ := Option.map_eq_some_iff.1 hv'
    have := ha.2 j x hx
    rw [← hba.cell (p := ⟨bb, off + j, none⟩) ha.1] at this
    exact this
  have hcb : 16 ≤ cb := hr.2.1
  have hat : ∀ w, (Instr.arrayAt 74 (.slice (some ⟨bb, off, none⟩) 16 cb)).run Try.prog w = .ok (.pointer (some ⟨bb, off, none⟩)) w := fun w => run_arrayAt w 74 _ 16 _ 16 _ Try.underlying74 (by decide)
  obtain ⟨wb, hwb⟩ : ∃ wb, wa.alloc (.cells #[B x0, B x1, B x2, B x3, B x4, B x5, B x6, B x7, B x8, B x9, B x10, B x11, B x12, B x13, B x14, B x15] 74) = wb := ⟨_, rfl⟩
  have hSt : St wb (w.heap.size + 1) l := by rw [← hwb, hl16, ← hza]; exact ⟨rfl, Blk.new _ _ _⟩
  have hbb : Below w.heap.size w wb := by rw [← hwb]; exact hba.alloc hba.size _
  have hxb : Blk wb w.heap.size 56 #[.pointer (some ⟨c, 0, none⟩)] := by rw [← hwb]; exact hxa.alloc _
  have hzb : wb.heap.size = w.heap.size + 2 := by rw [← hwb]; simp [hza]
  have a0 : wa.cell? ⟨w.heap.size, 0, none⟩ = some (.pointer (some ⟨c, 0, none⟩)) := by rw [hxa.cell 0]; rfl
  have b1 : wb.cell? ⟨w.heap.size, 0, none⟩ = some (.pointer (some ⟨c, 0, none⟩)) := by rw [hxb.cell 0]; rfl
  have HH := Lib.hid (And.intro h (And.intro hrng (And.intro hl (And.intro hSt (And.intro hbb hxb)))))
  have HZ := Lib.hid (And.intro hza hzb)
  have Hwa := Lib.hid hwa
  have Hwb := Lib.hid hwb
  clear h hrng hr ha hl hl16 hSt hbb hxb hxa hba
  refine calls_of_marks Try.func47 rfl ?_
  simp only [Try.ntmps47, List.size_toArray, List.length_cons, List.length_nil, Nat.reduceAdd, Nat.reduceSub, Array.replicate_succ, Array.replicate_zero, List.push_toArray, List.append_toArray, List.nil_append, List.cons_append]
  go_upto_region 1 with fail
  clear hwa
  go_wp2_with (first | (refine wpList_load_mid rfl 74 (.tmp 18) rfl bb off rfl [B x0, B x1, B x2, B x3, B x4, B x5, B x6, B x7, B x8, B x9, B x10, B x11, B x12, B x13, B x14, B x15] _ HH.out.2.1 Try.underlying74 rfl rfl ?_) | (go_at_call 72; refine (keysOf_any _ _ rfl).mono ?_; rintro e w3 ⟨rfl, hw3⟩))
  have hX3 : Blk w3 w.heap.size 56 #[.pointer (some ⟨c, 0, none⟩)] := by rw [hw3]; exact HH.out.2.2.2.2.2.alloc _
  have hK3 : Blk w3 (w.heap.size + 2) 56 #[.pointer (some ⟨c, 0, none⟩)] := by rw [hw3, ← hzb]; exact Blk.new _ _ _
  have hS3 : St w3 (w.heap.size + 1) l := by rw [hw3]; exact HH.out.2.2.2.1.alloc_ _
  have hB3 : Below w.heap.size w w3 := by rw [hw3]; exact HH.out.2.2.2.2.1.alloc HH.out.2.2.2.2.1.size _
  have hz3 : w3.heap.size = w.heap.size + 3 := by rw [hw3]; simp [hzb]
  have hC3 := HH.out.1.below hB3
  have H3 := Lib.hid (And.intro hX3 (And.intro hK3 (And.intro hS3 (And.intro hB3 (And.intro hz3 hC3)))))
  rw [← hw3]
  clear hw3 hX3 hK3 hS3 hB3 hC3 b1 a0 hwb hat hza hzb
  refine wp_range2 6 7 (gf := 84) (lb := #[.pointer (some ⟨w.heap.size + 2, 0, none⟩)]) (T := []) rfl (fun _ _ => by kernel_rfl)
    (keys_iter (w.heap.size + 2) b0 c ks K R cp w3.heap.size) (fun k args W h => by obtain ⟨A, cq, rfl, _⟩ := h; rfl) (by simp)
    (fun k W => St W (w.heap.size + 1) (encF ks R l k) ∧ Blk W w.heap.size 56 #[.pointer (some ⟨c, 0, none⟩)] ∧ Below w.heap.size w W)
    (fun _ _ _ => False)
    ?hI ?hIx ?hM ?hA ⟨H3.out.2.2.1, H3.out.1, H3.out.2.2.2.1⟩ ?hM0 ?hM1 ?hassign ?hbody ?hdone ?hstop
  case hI =>
    rintro k W1 W2 S ⟨h1, h2, h3⟩ ht hS
    have hS' : ∀ t ∈ S, w.heap.size + 2 < t := by
      intro t h
      rcases hS t h with h | ⟨h, _⟩
      · cases h
      · omega
    exact ⟨h1.turn ht (fun h => by have := hS' _ h; omega), h2.turn ht (fun h => by have := hS' _ h; omega), below_turn h3 ht (fun t h => by have := hS' _ h; omega) h3.size⟩
  case hIx => rintro c k W1 W2 S h; exact h.elim
  case hM =>
    rintro k W1 W2 hM ⟨r, hr⟩ ht
    exact hM.turn ht (by simp) k
  case hA =>
    rintro k args W1 W2 ⟨A, cq, rfl, hrd, hge⟩ ⟨r, hr⟩ ht
    refine ⟨A, cq, rfl, hrd.turn ht (fun ad had hm => ?_), hge⟩
    obtain ⟨b, off, e, ha⟩ := hrd.addr (by omega)
    rw [e] at had
    cases had
    simp at hm
    have hkl : (key ks k).length = 16 := hrd.1.symm
    obtain ⟨y, hy⟩ := at16 _ hkl 0 (by omega)
    have := ha.2 0 y hy
    subst hm
    simp [World.cell?, hr] at this
  case hM0 => exact ⟨H3.out.2.1, H3.out.2.2.2.2.2, Nat.le_refl _, by omega, by omega, by omega⟩
  case hM1 =>
    intro W ht
    exact keyMine.turn (k := 0) ⟨H3.out.2.1, H3.out.2.2.2.2.2, Nat.le_refl _, by omega, by omega, by omega⟩ ht (by simp) 0
  case hassign =>
    rintro l' args k W K' ⟨A', cq, rfl, _⟩ hK
    simp at hK
    gi_wp2
    exact hK
  case hbody =>
    rintro l' k args W hkN hlt ⟨h1, h2, h3⟩ hMi ⟨A', cq, rfl, hrd, hge⟩
    have hsb : ∀ ad, A' = some ad → ad.block ≠ w.heap.size + 1 := fun ad had => by have := hge ad had; omega
    have hnext : encF ks R l (k + 1) = xorL (encM R k (encF ks R l k)) (key ks k) := rfl
    generalize hs : encF ks R l k = s at *
    have p0 : W.cell? ⟨w.heap.size, 0, none⟩ = some (.pointer (some ⟨c, 0, none⟩)) := by rw [h2.cell 0]; rfl
    have hb := Lib.hid (And.intro h1 (And.intro h2 (And.intro h3 (And.intro hMi (And.intro hrd (And.intro hge (And.intro hsb hnext)))))))
    have hk15 : (k : Int) ≤ 15 := by omega
    clear h1 h2 h3 hMi hrd hge hsb hnext
    by_cases hk0 : k = 0
    · have hk0' : ¬ (0 < (k : Int)) := by omega
      have hk0'' : decide (0 < (k : Int)) = false := decide_eq_false hk0'
      have hA := Lib.hid (add_any (w.heap.size + 1) s A' cq (key ks k) W hb.out.1 hb.out.2.2.2.2.1 hb.out.2.2.2.2.2.2.1)
      have hm : encM R k s = s := by unfold encM; rw [if_neg (by omega)]
      have HM := Lib.hid hm
      clear hm hk0
      gi_wp2_with (refine ⟨trivial, ?_⟩; gi_at_call 74; refine (callsIn_wide.2 hA.out).mono ?_; rintro e w5 ⟨rfl, hS5, hT5⟩)
      refine ⟨⟨[w.heap.size + 1], hT5, by simp; omega, by simp; omega⟩, ⟨by rw [hb.out.2.2.2.2.2.2.2, HM.out]; exact hS5, hb.out.2.1.turn hT5 (by simp), below_turn hb.out.2.2.1 hT5 (by simp) hb.out.2.2.1.size⟩, ?_⟩
      exact hb.out.2.2.2.1.turn2 hT5 (by simp) (by simp; omega) (by simp; omega) k
    · have hk0' : 0 < (k : Int) := by omega
      have hk0'' : decide (0 < (k : Int)) = true := decide_eq_true hk0'
      have hkn : 0 < k := by omega
      have hkn' : decide (0 < k) = true := decide_eq_true hkn
      have n1 : w.heap.size + 1 ≠ W.heap.size := by omega
      have n2 : w.heap.size ≠ W.heap.size := by omega
      have n3 : c ≠ W.heap.size := by omega
      have hZ := st_new W
      have hSa := hb.out.1.alloc_ (.cells Z16 74)
      have hXa := hb.out.2.1.alloc (.cells Z16 74)
      have hCa : CAt (W.alloc (.cells Z16 74)) c _ boxL invL := ⟨hb.out.2.2.2.1.2.1.1.1, hb.out.2.2.2.1.2.1.1.2.1, hb.out.2.2.2.1.2.1.1.2.2.alloc _⟩
      have hTa : Turn [w.heap.size + 1] W (W.alloc (.cells Z16 74)) := (Turn.refl _ _).alloc _
      have hZs : W.heap.size ≤ (W.alloc (.cells Z16 74)).heap.size := by simp
      have HQ := Lib.hid (And.intro hZ (And.intro hSa (And.intro hXa (And.intro hCa (And.intro hTa hZs)))))
      unfold Z16 at HQ
      clear hZ hSa hXa hCa hTa hZs hk0
      gi_wp2_with fail
      generalize W.alloc (.cells #[.int .u8 0, .int .u8 0, .int .u8 0, .int .u8 0, .int .u8 0, .int .u8 0, .int .u8 0, .int .u8 0, .int .u8 0, .int .u8 0, .int .u8 0, .int .u8 0, .int .u8 0, .int .u8 0, .int .u8 0, .int .u8 0] 74) = wd at *
      gi_loopw [26] (fun jv wz => ∃ j : Nat, j ≤ 16 ∧ jv = .int .i64 (j : Int) ∧ St wz W.heap.size (encN s j) ∧ Turn [W.heap.size] wd wz) (fun jv _ => 16 - (intOf jv).toNat)
      case atStart => exact ⟨0, by omega, rfl, HQ.out.1, Turn.refl _ _⟩
      case round =>
        obtain ⟨j, hj, rfl, hA, hT⟩ := hrel
        have hS := HQ.out.2.1.turn hT (by simp; exact n1)
        have hX := HQ.out.2.2.1.turn hT (by simp; exact n2)
        have hC : CAt wr c _ boxL invL := ⟨HQ.out.2.2.2.1.1, HQ.out.2.2.2.1.2.1, HQ.out.2.2.2.1.2.2.turn hT (by simp; exact n3)⟩
        by_cases hjlt : j < 16
        · have hq : (j : Int) < 16 := by omega
          obtain ⟨m, hm⟩ : ∃ m, m = j % 4 := ⟨_, rfl⟩
          obtain ⟨p, hp⟩ : ∃ p, p = shp j := ⟨_, rfl⟩
          have hp' : p = (j + j % 4 * 4) % 16 := hp
          have hp16 : p < 16 := by omega
          obtain ⟨x, hx⟩ := at16 s hS.1 p hp16
          have e3 : (x.toNat : Int) < 256 := by have := x.toNat_lt; omega
          have g0 : (j : Int).tmod 4 = (m : Int) := by rw [Int.tmod_eq_emod_of_nonneg (by omega)]; omega
          have g1 : IntKind.i64.wrap ((m : Int) * 4) = (m : Int) * 4 := IntWalk.i64_in _ (by omega)
          have g2 : IntKind.i64.wrap ((j : Int) + (m : Int) * 4) = (j : Int) + (m : Int) * 4 := IntWalk.i64_in _ (by omega)
          have g6 : ((j : Int) + (m : Int) * 4).tmod 16 = (p : Int) := by rw [Int.tmod_eq_emod_of_nonneg (by omega)]; omega
          have g4 : (p : Int) < 16 := by omega
          have hF : ∀ wq, Turn [W.heap.size] wr wq → wq.cell? ⟨w.heap.size, 0, none⟩ = some (.pointer (some ⟨c, 0, none⟩)) ∧ wq.cell? ⟨w.heap.size + 1, p, none⟩ = some (B x) ∧ wq.cell? ⟨c, 1 + x.toNat, none⟩ = some (B (sb x)) := fun wq hq => by
            refine ⟨by rw [(hX.turn hq (by simp; exact n2)).cell 0]; rfl, (hS.turn hq (by simp; exact n1)).cell p x hx, ?_⟩
            have hC' : CAt wq c _ boxL invL := ⟨hC.1, hC.2.1, hC.2.2.turn hq (by simp; exact n3)⟩
            exact hC'.boxCell _ _ (box_at x)
          obtain ⟨y, hy⟩ := at16 (encN s j) hA.1 j hjlt
          have y0 := fun wq (ho : Old wr wq) => (show St wq W.heap.size (encN s j) from ⟨hA.1, hA.2.below ho⟩).cell j y hy
          have y1 := fun wq (ho : Old wr wq) => (show St wq W.heap.size (encN s j) from ⟨hA.1, hA.2.below ho⟩).frozen j
          have hnew : encN s (j + 1) = (encN s j).set j (sb x) := by
            show (encN s j).set j (sb (s.getD (shp j) 0)) = _
            rw [← hp, List.getD_eq_getElem?_getD, hx]; rfl
          have HF := Lib.hid hF
          have HB := Lib.hid (And.intro hA (And.intro hT hnew))
          have HY := Lib.hid (And.intro y0 y1)
          clear hA hT hS hX hC hF hnew hx hy hp hp' hm y0 y1 hj
          gi_wp2_with fail
          refine region_roundTurn [W.heap.size] (by kernel_rfl) ?hlets (by kernel_rfl) (fun we hOld hHeld hSz => ?_)
          case hlets => rintro ⟨_, _, h⟩; exact h
          have HSz := Lib.hid hSz
          clear hSz
          have z0 := HY.out.1 we hOld
          have z1 := HY.out.2 we hOld
          have HO := Lib.hid hOld
          clear hOld
          refine takeL (i := 0) (v := ?_) rfl (by kernel_rfl) (by kernel_rfl) (by kernel_rfl) (fun _ _ _ h => h) (Or.inl ⟨by rfl, ?_⟩) hHeld ?_
          rotate_left
          focus (intro wq hSw; clear hSw; go_simp; try with_reducible rfl)
          try simp only [Act.put, List.setIfInBounds_toArray, List.set_cons_zero, List.set_cons_succ]
          refine takeL (i := 1) (v := ?_) rfl (by kernel_rfl) (by kernel_rfl) (by kernel_rfl) (fun _ _ _ h => h) (Or.inl ⟨by rfl, ?_⟩) hHeld ?_
          rotate_left
          focus (intro wq hSw; obtain ⟨f1, f2, f3⟩ := HF.out wq hSw; clear hSw; go_simp; try with_reducible rfl)
          try simp only [Act.put, List.setIfInBounds_toArray, List.set_cons_zero, List.set_cons_succ]
          refine takeL (i := 2) (v := ?_) rfl (by kernel_rfl) (by kernel_rfl) (by kernel_rfl) (fun _ _ _ h => h) (Or.inl ⟨by rfl, ?_⟩) hHeld ?_
          rotate_left
          focus (intro wq hSw; clear hSw; go_simp; try with_reducible rfl)
          try simp only [Act.put, List.setIfInBounds_toArray, List.set_cons_zero, List.set_cons_succ]
          refine takeL (i := 3) (v := ?_) rfl (by kernel_rfl) (by kernel_rfl) (by kernel_rfl) (fun _ _ _ h => h) (Or.inl ⟨by rfl, ?_⟩) hHeld ?_
          rotate_left
          focus (intro wq hSw; clear hSw; go_simp; try with_reducible rfl)
          try simp only [Act.put, List.setIfInBounds_toArray, List.set_cons_zero, List.set_cons_succ]
          refine takeL (i := 4) (v := ?_) rfl (by kernel_rfl) (by kernel_rfl) (by kernel_rfl) (fun _ _ _ h => h) (Or.inl ⟨by rfl, ?_⟩) hHeld ?_
          rotate_left
          focus (intro wq hSw; clear hSw; go_simp; try with_reducible rfl)
          try simp only [Act.put, List.setIfInBounds_toArray, List.set_cons_zero, List.set_cons_succ]
          refine takeL (i := 5) (v := ?_) rfl (by kernel_rfl) (by kernel_rfl) (by kernel_rfl) (fun _ _ _ h => h) (Or.inl ⟨by rfl, ?_⟩) hHeld ?_
          rotate_left
          focus (intro wq hSw; clear hSw; go_simp; try with_reducible rfl)
          try simp only [Act.put, List.setIfInBounds_toArray, List.set_cons_zero, List.set_cons_succ]
          refine takeL (i := 6) (v := ?_) rfl (by kernel_rfl) (by kernel_rfl) (by kernel_rfl) (fun _ _ _ h => h) (Or.inl ⟨by rfl, ?_⟩) hHeld ?_
          rotate_left
          focus (intro wq hSw; clear hSw; go_simp; try with_reducible rfl)
          try simp only [Act.put, List.setIfInBounds_toArray, List.set_cons_zero, List.set_cons_succ]
          refine takeL (i := 7) (v := ?_) rfl (by kernel_rfl) (by kernel_rfl) (by kernel_rfl) (fun _ _ _ h => h) (Or.inl ⟨by rfl, ?_⟩) hHeld ?_
          rotate_left
          focus (intro wq hSw; clear hSw; go_simp; try with_reducible rfl)
          try simp only [Act.put, List.setIfInBounds_toArray, List.set_cons_zero, List.set_cons_succ]
          refine takeL (i := 8) (v := ?_) rfl (by kernel_rfl) (by kernel_rfl) (by kernel_rfl) (fun _ _ _ h => h) (Or.inl ⟨by rfl, ?_⟩) hHeld ?_
          rotate_left
          focus (intro wq hSw; clear hSw; go_simp; try with_reducible rfl)
          try simp only [Act.put, List.setIfInBounds_toArray, List.set_cons_zero, List.set_cons_succ]
          refine takeL (i := 9) (v := ?_) rfl (by kernel_rfl) (by kernel_rfl) (by kernel_rfl) (fun _ _ _ h => h) (Or.inl ⟨by rfl, ?_⟩) hHeld ?_
          rotate_left
          focus (intro wq hSw; obtain ⟨f1, f2, f3⟩ := HF.out wq hSw; clear hSw; go_simp; try with_reducible rfl)
          try simp only [Act.put, List.setIfInBounds_toArray, List.set_cons_zero, List.set_cons_succ]
          refine takeL (i := 10) (v := ?_) rfl (by kernel_rfl) (by kernel_rfl) (by kernel_rfl) (fun _ _ _ h => h) (Or.inl ⟨by rfl, ?_⟩) hHeld ?_
          rotate_left
          focus (intro wq hSw; clear hSw; go_simp; try with_reducible rfl)
          try simp only [Act.put, List.setIfInBounds_toArray, List.set_cons_zero, List.set_cons_succ]
          refine takeL (i := 11) (v := ?_) rfl (by kernel_rfl) (by kernel_rfl) (by kernel_rfl) (fun _ _ _ h => h) (Or.inl ⟨by rfl, ?_⟩) hHeld ?_
          rotate_left
          focus (intro wq hSw; clear hSw; go_simp; try with_reducible rfl)
          try simp only [Act.put, List.setIfInBounds_toArray, List.set_cons_zero, List.set_cons_succ]
          refine takeL (i := 12) (v := ?_) rfl (by kernel_rfl) (by kernel_rfl) (by kernel_rfl) (fun _ _ _ h => h) (Or.inl ⟨by rfl, ?_⟩) hHeld ?_
          rotate_left
          focus (intro wq hSw; clear hSw; go_simp; try with_reducible rfl)
          try simp only [Act.put, List.setIfInBounds_toArray, List.set_cons_zero, List.set_cons_succ]
          refine takeL (i := 13) (v := ?_) rfl (by kernel_rfl) (by kernel_rfl) (by kernel_rfl) (fun _ _ _ h => h) (Or.inl ⟨by rfl, ?_⟩) hHeld ?_
          rotate_left
          focus (intro wq hSw; obtain ⟨f1, f2, f3⟩ := HF.out wq hSw; clear hSw; go_simp; try with_reducible rfl)
          try simp only [Act.put, List.setIfInBounds_toArray, List.set_cons_zero, List.set_cons_succ]
          refine takeL (i := 14) (v := ?_) rfl (by kernel_rfl) (by kernel_rfl) (by kernel_rfl) (fun _ _ _ h => h) (Or.inl ⟨by rfl, ?_⟩) hHeld ?_
          rotate_left
          focus (intro wq hSw; clear hSw; go_simp; try with_reducible rfl)
          try simp only [Act.put, List.setIfInBounds_toArray, List.set_cons_zero, List.set_cons_succ]
          refine wpAnyH_ready (rs := [15]) (by kernel_rfl) (by simp) ?_
          refine consL rfl (fun K hK => ?_) AllReadyH.nil
          go_simp
          refine hK.out _ _ (hHeld.setCell (.inl (by simp)) _) (fun hHeld => ?_)
          clear hK K
          try simp only [Act.put, List.setIfInBounds_toArray, List.set_cons_zero, List.set_cons_succ]
          refine wpAnyH_done (by kernel_rfl) ?_ _
          have HH2 := Lib.hid hHeld
          clear hHeld z0 z1
          gi_wp2_with fail
          go_roundw
          case rel =>
            refine ⟨j + 1, by omega, by go_num, ?_, HB.out.2.1.trans HH2.out (fun x hx => .inl hx)⟩
            rw [HB.out.2.2]
            exact (show St we W.heap.size (encN s j) from ⟨HB.out.1.1, HB.out.1.2.below HO.out⟩).set_ j (sb x)
          case measure => simp [intOf]; omega
        · obtain rfl : j = 16 := by omega
          have hq : ¬ ((16 : Int) < 16) := by omega
          have hT4 : Turn [w.heap.size + 1] W wr := HQ.out.2.2.2.2.1.trans hT (fun x hx => .inr (by simp at hx; omega))
          have hs2l := encN_len s 16
          have hem : encM R k s = (if k < R - 1 then mixN (encN s 16) [2, 3, 1, 1] 4 else encN s 16) := by unfold encM; rw [if_pos (by omega)]
          generalize encN s 16 = s2 at *
          have hrg : wr.rangeAt W.heap.size 0 (s2.map B) := fun j v hv => by
            rw [List.getElem?_map] at hv
            obtain ⟨x, hx, rfl⟩ := Option.map_eq_some_iff.1 hv
            rw [Nat.zero_add]; exact hA.cell j x hx
          have hcut : ∀ w', Turn [w.heap.size + 1] wr w' → w'.cell? ⟨w.heap.size, 0, none⟩ = some (.pointer (some ⟨c, 0, none⟩)) ∧ w'.cell? ⟨c, 0, none⟩ = some (.slice (some ⟨K, 0, none⟩) R cp) := fun w' h => by
            refine ⟨by rw [(hX.turn h (by simp)).cell 0]; rfl, ?_⟩
            rw [(hC.2.2.turn h (by simp; omega)).cell 0]; rfl
          have hadd : ∀ w' s', Turn [w.heap.size + 1] wr w' → St w' (w.heap.size + 1) s' → Calls Try.prog 74 #[.pointer (some ⟨w.heap.size + 1, 0, none⟩), .slice A' 16 cq] w' fun e w'' => e = .returned (.tuple #[]) ∧ St w'' (w.heap.size + 1) (xorL s' (key ks k)) ∧ Turn [w.heap.size + 1] w' w'' := fun w' s' h hs' =>
            add_any (w.heap.size + 1) s' A' cq (key ks k) w' hs' (hb.out.2.2.2.2.1.turn (hT4.trans h (fun x hx => .inl hx)) (fun ad had hm => hb.out.2.2.2.2.2.2.1 ad had (by simpa using hm))) hb.out.2.2.2.2.2.2.1
          have hend : ∀ w' s', Turn [w.heap.size + 1] wr w' → encM R k s = s' → St w' (w.heap.size + 1) (xorL s' (key ks k)) → KeepsTwo w3.heap.size W w' ∧ (St w' (w.heap.size + 1) (encF ks R l (k + 1)) ∧ Blk w' w.heap.size 56 #[.pointer (some ⟨c, 0, none⟩)] ∧ Below w.heap.size w w') ∧ keyMine (w.heap.size + 2) b0 c ks K R cp w3.heap.size k w' := fun w' s' h he hs' => by
            have hT6 := hT4.trans h (fun x hx => .inl hx)
            refine ⟨⟨[w.heap.size + 1], hT6, by simp; omega, by simp; omega⟩, ⟨by rw [hb.out.2.2.2.2.2.2.2, he]; exact hs', hb.out.2.1.turn hT6 (by simp), below_turn hb.out.2.2.1 hT6 (by simp) hb.out.2.2.1.size⟩, ?_⟩
            exact hb.out.2.2.2.1.turn2 hT6 (by simp) (by simp; omega) (by simp; omega) k
          have hpw : wr.cell? ⟨w.heap.size, 0, none⟩ = some (.pointer (some ⟨c, 0, none⟩)) := (hcut wr (Turn.refl _ _)).1
          have HE := Lib.hid (And.intro hrg (And.intro hcut (And.intro hadd (And.intro hend (And.intro hs2l (And.intro hem hS))))))
          have q4 : IntKind.i64.wrap ((R : Int) - 1) = (R : Int) - 1 := IntWalk.i64_in _ (by omega)
          have z5 : (0 : Int) ≤ R := by omega
          clear hrg hcut hadd hend hs2l hem hS hA hT hX hC hT4 hj hjlt
          by_cases hm : k < R - 1
          · have hm2 : (k : Int) < (R : Int) - 1 := by omega
            have hmix : ∀ w', St w' (w.heap.size + 1) s2 → Calls Try.prog 73 #[.pointer (some ⟨w.heap.size + 1, 0, none⟩), .agg #[.int .u8 2, .int .u8 3, .int .u8 1, .int .u8 1]] w' fun e w'' => e = .returned (.tuple #[]) ∧ St w'' (w.heap.size + 1) (mixN s2 [2, 3, 1, 1] 4) ∧ Turn [w.heap.size + 1] w' w'' := fun w' h => mix_any (w.heap.size + 1) s2 2 3 1 1 w' h
            have HMx := Lib.hid hmix
            have hem2 : encM R k s = mixN s2 [2, 3, 1, 1] 4 := by rw [HE.out.2.2.2.2.2.1, if_pos hm]
            have HEm := Lib.hid hem2
            clear hmix hem2
            gi_wp2_with (first | (refine wpListIn_load_mid rfl 74 (.tmp 8) rfl W.heap.size 0 rfl (s2.map B) _ HE.out.1 Try.underlying74 rfl (by rw [List.length_map, HE.out.2.2.2.2.1]; rfl) ?_) | (refine wpListIn_store_arr rfl 74 (.tmp 5) (.tmp 45) rfl (w.heap.size + 1) 74 _ (s2.map B) HE.out.2.2.2.2.2.2.2 rfl rfl (by rw [List.length_map, HE.out.2.2.2.2.1]; rfl) (by simp [HE.out.2.2.2.2.1, HE.out.2.2.2.2.2.2.1]) (by rw [List.all_eq_true]; exact map_one s2) ?_; intro w5 hB5 hT5; obtain ⟨p5, c5⟩ := HE.out.2.1 w5 hT5; have hS5 : St w5 (w.heap.size + 1) s2 := ⟨HE.out.2.2.2.2.1, hB5⟩; have H5 := Lib.hid (And.intro hS5 hT5); clear hB5 hT5 hS5) | (refine ⟨trivial, ?_⟩; gi_at_call 73; refine (callsIn_wide.2 (HMx.out w5 H5.out.1)).mono ?_; rintro e w6 ⟨rfl, hS6, hT6⟩; have hT56 := H5.out.2.trans hT6 (fun x hx => .inl hx); have H6 := Lib.hid (And.intro hS6 hT56); clear hS6 hT6 hT56 p5 c5) | (refine ⟨trivial, ?_⟩; gi_at_call 74; refine (callsIn_wide.2 (HE.out.2.2.1 w6 _ H6.out.2 H6.out.1)).mono ?_; rintro e w7 ⟨rfl, hS7, hT7⟩))
            exact HE.out.2.2.2.1 w7 _ (H6.out.2.trans hT7 (fun x hx => .inl hx)) HEm.out hS7
          · have hm2 : ¬ ((k : Int) < (R : Int) - 1) := by omega
            have hem2 : encM R k s = s2 := by rw [HE.out.2.2.2.2.2.1, if_neg hm]
            have HEm := Lib.hid hem2
            clear hem2
            gi_wp2_with (first | (refine wpListIn_load_mid rfl 74 (.tmp 8) rfl W.heap.size 0 rfl (s2.map B) _ HE.out.1 Try.underlying74 rfl (by rw [List.length_map, HE.out.2.2.2.2.1]; rfl) ?_) | (refine wpListIn_store_arr rfl 74 (.tmp 5) (.tmp 45) rfl (w.heap.size + 1) 74 _ (s2.map B) HE.out.2.2.2.2.2.2.2 rfl rfl (by rw [List.length_map, HE.out.2.2.2.2.1]; rfl) (by simp [HE.out.2.2.2.2.1, HE.out.2.2.2.2.2.2.1]) (by rw [List.all_eq_true]; exact map_one s2) ?_; intro w5 hB5 hT5; obtain ⟨p5, c5⟩ := HE.out.2.1 w5 hT5; have hS5 : St w5 (w.heap.size + 1) s2 := ⟨HE.out.2.2.2.2.1, hB5⟩; have H5 := Lib.hid (And.intro hS5 hT5); clear hB5 hT5 hS5) | (refine ⟨trivial, ?_⟩; gi_at_call 74; refine (callsIn_wide.2 (HE.out.2.2.1 w5 _ H5.out.2 H5.out.1)).mono ?_; rintro e w7 ⟨rfl, hS7, hT7⟩))
            exact HE.out.2.2.2.1 w7 _ (H5.out.2.trans hT7 (fun x hx => .inl hx)) HEm.out hS7
  case hdone =>
    rintro W hlt ⟨h1, h2, h3⟩ hK
    go_wp2_with fail
    have hT : Turn [w3.heap.size] W (W.putObj w3.heap.size (.deferred none)) := (Turn.refl _ W).putObj (.inl (by simp)) _
    refine ret_mark (v := .slice (some ⟨w.heap.size + 1, 0, none⟩) 16 16) rfl hK (fun W' => by simp [results, Try.results47, go_sem]) ?_
    exact ⟨w.heap.size + 1, rfl, by omega, h1.turn hT (by simp; omega), below_turn h3 hT (by simp; omega) h3.size⟩
  case hstop => rintro c k W hlt hkN h; exact h.elim
end Go.Proofs.Ytiocmebcbhbcmaa
namespace Go.Proofs.Ytiocmebcbhbcmaa
open Go.RowKit

def rotl32 (x : UInt32) (n : Nat) : UInt32 := x <<< UInt32.ofNat n ||| x >>> UInt32.ofNat (32 - n)
def rotl64 (x : UInt64) (n : Nat) : UInt64 := x <<< UInt64.ofNat n ||| x >>> UInt64.ofNat (64 - n)

theorem and_mask (k : Int) (m : Nat) (j : Nat) (hj : m = 2 ^ j) (hm : m ≤ 64) (h0 : 0 < m) :
    BitVec.toNat (BitVec.ofInt 64 (k % 18446744073709551616) &&& BitVec.ofInt 64 ((m : Int) - 1)) = (k % m).toNat := by
  rw [BitVec.toNat_and, BitVec.toNat_ofInt, BitVec.toNat_ofInt]
  have e1 : (((m : Int) - 1) % ((2 ^ 64 : Nat) : Int)).toNat = 2 ^ j - 1 := by
    rw [← hj]; omega
  rw [e1, Nat.and_two_pow_sub_one_eq_mod, ← hj]
  have : (k % 18446744073709551616 % ((2 ^ 64 : Nat) : Int)) = k % 18446744073709551616 := by omega
  rw [this]
  have hd : ((m : Int)) ∣ 18446744073709551616 := by
    have hj6 : j ≤ 6 := by
      rcases Nat.lt_or_ge 6 j with h | h
      · have : 2 ^ 7 ≤ 2 ^ j := Nat.pow_le_pow_right (by omega) h
        omega
      · exact h
    subst hj
    have : j = 0 ∨ j = 1 ∨ j = 2 ∨ j = 3 ∨ j = 4 ∨ j = 5 ∨ j = 6 := by omega
    rcases this with rfl | rfl | rfl | rfl | rfl | rfl | rfl <;> decide
  have h2 := Int.emod_emod_of_dvd k hd
  have h3 : 0 ≤ k % 18446744073709551616 := by omega
  obtain ⟨u, hu⟩ := Int.eq_ofNat_of_zero_le h3
  rw [hu] at h2 ⊢
  rw [Int.toNat_natCast]
  omega

/-! ### the reference's -/
/-! ### numbers out of bytes -/
def be32 (a b c d : UInt8) : UInt32 := a.toUInt32 <<< 24 ||| b.toUInt32 <<< 16 ||| c.toUInt32 <<< 8 ||| d.toUInt32
def be64 (a b c d e f g h : UInt8) : UInt64 := a.toUInt64 <<< 56 ||| b.toUInt64 <<< 48 ||| c.toUInt64 <<< 40 ||| d.toUInt64 <<< 32 ||| e.toUInt64 <<< 24 ||| f.toUInt64 <<< 16 ||| g.toUInt64 <<< 8 ||| h.toUInt64
/-- The four bytes at place k. -/
def word32 (l : List UInt8) (k : Nat) : UInt32 := be32 (l.getD k 0) (l.getD (k + 1) 0) (l.getD (k + 2) 0) (l.getD (k + 3) 0)
def word64 (l : List UInt8) (k : Nat) : UInt64 := be64 (l.getD k 0) (l.getD (k + 1) 0) (l.getD (k + 2) 0) (l.getD (k + 3) 0) (l.getD (k + 4) 0) (l.getD (k + 5) 0) (l.getD (k + 6) 0) (l.getD (k + 7) 0)
theorem At.cellD {w : World} {b off : Nat} {l : List UInt8} (h : At w b off l) {k : Nat} (hk : k < l.length) : w.cell? ⟨b, off + k, none⟩ = some (B (l.getD k 0)) := by
  rw [h.cell hk]; simp [List.getD, hk]

theorem get64_any (b off n c : Nat) (l : List UInt8) (w : World) (h : At w b off l) (hn : n = l.length) (h4 : 8 ≤ n) :
    Calls Try.prog 92 #[.slice (some ⟨b, off, none⟩) n c] w fun e w' => e = .returned (U64 (word64 l 0)) ∧ ∃ k, w' = w.drewN k := by
  have c0 := h.cellD (k := 0) (by omega)
  have c1 := h.cellD (k := 1) (by omega)
  have c2 := h.cellD (k := 2) (by omega)
  have c3 := h.cellD (k := 3) (by omega)
  have c4 := h.cellD (k := 4) (by omega)
  have c5 := h.cellD (k := 5) (by omega)
  have c6 := h.cellD (k := 6) (by omega)
  have c7 := h.cellD (k := 7) (by omega)
  unfold word64
  simp only [Nat.add_zero, Nat.zero_add] at *
  generalize l.getD 0 0 = x0 at *
  generalize l.getD 1 0 = x1 at *
  generalize l.getD 2 0 = x2 at *
  generalize l.getD 3 0 = x3 at *
  generalize l.getD 4 0 = x4 at *
  generalize l.getD 5 0 = x5 at *
  generalize l.getD 6 0 = x6 at *
  generalize l.getD 7 0 = x7 at *
  have l0 : (0 : Int) < n := by omega
  have l1 : (1 : Int) < n := by omega
  have l2 : (2 : Int) < n := by omega
  have l3 : (3 : Int) < n := by omega
  have l4 : (4 : Int) < n := by omega
  have l5 : (5 : Int) < n := by omega
  have l6 : (6 : Int) < n := by omega
  have l7 : (7 : Int) < n := by omega
  have H := Lib.hid hn
  have H2 := Lib.hid h
  clear hn h
  go_enter Try.func92, Try.ntmps92
  go_wp2
  go_quiet (fail)
  go_wp2
  go_ret
  exact ⟨rfl, _, rfl⟩
end Go.Proofs.Ytiocmebcbhbcmaa
