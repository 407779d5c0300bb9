/-
  An append to a row of any element, the old row kept.
  blockfs: the law FsWhole, walked.
-/
import Derived.Test.YtomngfihaohgdaaDoorRowE
import Derived.Test.YtomngfihaohgdaaDoorFsG
namespace Go.Proofs.YtomngfihaohgdaaDoor
set_option maxRecDepth 100000
open Go.RowKit

section
variable {α : Type} (E : ETy α)
theorem run_appE_keep (w : World) (base : Nat) (ty : TypeId) (v : Value) (l : List α) (hown : OwnE E w base v l) (hbase : base ≤ w.heap.size) (ad : Addr) (m c : Nat) (l2 : List α) (hrd : RdC E w (some ad) m l2)
    (hlen : l.length + l2.length ≤ 1000000) :
    ∃ v' w', (Builtin.append_ #[E.ts, E.ts] ty #[v, .slice (some ad) m c]).run Tryd.prog w = .ok v' w' ∧ OwnE E w' base v' (l ++ l2) ∧ OwnE E w' base v l ∧ w.grownBy w' v.ownBlock ∧ (v'.ownBlock = v.ownBlock ∨ v'.ownBlock = some w.heap.size) := by
  obtain ⟨i0, hi, hz0, hz1, hz2⟩ := info_parts E.info
  obtain ⟨hm, hsrc⟩ := hrd
  have hb := E.small
  have hbytes : (l.length + l2.length) * E.bytes ≤ 140737488355328 := Nat.le_trans (Nat.mul_le_mul hlen hb) (by decide)
  have src : ∀ j u, (E.all l2)[j]? = some u → w.cell? (ad.add j) = some u := fun j u hu => by
    rcases hsrc with h0 | ⟨g, off, h0, _, h4⟩
    · have hl2 : l2 = [] := List.eq_nil_of_length_eq_zero (hm.trans h0)
      subst hl2
      simp [ETy.all] at hu
    · injection h0 with h0
      subst h0
      rw [Addr.add_mid]
      exact h4 j u hu
  obtain ⟨v', w', hr, ho', hg, hn, hbl⟩ := run_append_own_at (P := Tryd.prog) w base E.ts ty E.t i0 _ E.sz E.bytes E.und hi hz0 hz1 hz2 E.zsz E.pos v l.length (E.all l) hown ad m c (E.all l2) (by rw [E.all_len, hm]) src (E.all_one' l2) (by unfold maxLen; omega) (by rw [← hm]; exact hbytes) hbase
  refine ⟨v', w', hr, ?_, ?_, hg, hbl⟩
  · unfold OwnE
    rw [E.all_append, List.length_append, hm]
    exact ho'
  have hown' := hown
  obtain ⟨e1, ⟨rfl, e2⟩ | ⟨g, cap, cur, rfl, hbg, hh, hnc, hmx, hcs, htk⟩⟩ := hown'
  · obtain rfl : l = [] := List.eq_nil_of_length_eq_zero e2
    exact OwnE.nil _ _
  · by_cases hroom : l.length + m ≤ cap
    · have hfit : l.length * E.sz + m * E.sz ≤ cap * E.sz := by rw [← Nat.add_mul]; exact Nat.mul_le_mul_right _ hroom
      have hr2 := run_append_room (P := Tryd.prog) w E.ts ty E.t i0 E.und hi g l.length cap cur hh ad m c (E.all l2) (by rw [E.all_len, hm, hz1]) src (E.all_one' l2) hroom (by rw [hz1, hcs, E.all_len, hm]; exact hfit)
      rw [hr2] at hr
      injection hr with _ hw
      subst hw
      refine ⟨e1, .inr ⟨g, cap, _, rfl, hbg, setRow_heap w g cur _ E.t _ hh, hnc, hmx, ?_, ?_⟩⟩
      · rw [hz1]
        simp only [List.size_toArray, List.length_append, List.length_take, List.length_drop, Array.length_toList, E.all_len, hm, hcs]
        omega
      · rw [hz1]
        simp only
        rw [htk, List.append_assoc]
        rw [← e1, List.take_left]
    · have holds : ∀ j u, (E.all l)[j]? = some u → w.cell? ((⟨g, 0, none⟩ : Addr).add j) = some u := World.ownsRow.cells hown (g := g) rfl
      have hr2 := run_append_grow (P := Tryd.prog) w E.ts ty E.t i0 _ E.und hi hz0 ⟨g, 0, none⟩ l.length cap (E.all l) (by rw [hz1, E.all_len]) holds ad m c (E.all l2) (by rw [E.all_len, hm, hz1]) src (by omega) (by omega) (growslice_fits (by omega) (by rw [hz2, ← hm]; exact hbytes))
      rw [hr2] at hr
      injection hr with _ hw
      subst hw
      exact OwnE.below (show OwnE E w.drew base _ l from hown) ((Below.refl _ w.drew).alloc (Nat.le_refl _) _)
/-- An append of a row that lies somewhere; the old row is as it was. -/
theorem wp_appE_keep {ops : Array Oper} {o : Oper} {a : Act} {w : World} {Q : Exit → Act → World → Prop} {rest : List Oper} (s x : Operand) (base : Nat) (v : Value) (l : List α) (hown : OwnE E w base v l) (hbase : base ≤ w.heap.size)
    (ad : Addr) (m c : Nat) (l2 : List α) (hrd : RdC E w (some ad) m l2) (hlen : l.length + l2.length ≤ 1000000) (hgd : o.guard = none)
    (ho : o.op = .call { callee := .builtin .append, args := #[s, x], argTypes := #[E.ts, E.ts] }) (hs : a.eval s = v) (hx : a.eval x = .slice (some ad) m c)
    (h : ∀ (A' : Option Addr) (n' c' : Nat) (w' : World), GrewE E base w w' v A' n' c' (l ++ l2) ∧ OwnE E w' base v l → wpList Tryd.prog ops Q rest (a.put o.dst (.slice A' n' c')) w') : wpList Tryd.prog ops Q (o :: rest) a w :=
  wpList_plain hgd fun _ hK => by
    obtain ⟨v', w', hrun, h1, h2, h3, h4⟩ := run_appE_keep E w base o.type v l hown hbase ad m c l2 hrd hlen
    unfold Oper.wp
    simp only [execOp, ho, resolve, invoke, builtin, Sem.run_bind, Sem.run_pure, Result.andThen_ok, List.map_toArray, List.map_cons, List.map_nil, hs, hx, hrun]
    obtain ⟨A', n', c', rfl⟩ := h1.form
    exact hK _ _ (h A' n' c' w' ⟨⟨h1, (Below.refl base w).grown h3 hbase (fun k hk => (hown.lt hk).1), h3, h4⟩, h2⟩)
end
end Go.Proofs.YtomngfihaohgdaaDoor
namespace Go.Proofs.YtomngfihaohgdaaDoor
set_option maxRecDepth 100000
open Go.RowKit Go.ChangeShapes Go.WideShapes Go.ChangeAt Go.Deep

def WholeP (ps : List PutV) (k : Nat) : Prop := ps.length = k ∧ ∀ p ∈ ps, 0 ≤ p.blk ∧ p.blk < (k : Int) ∧ p.l.length = 256
theorem WholeP.snoc {ps : List PutV} {k : Nat} (h : WholeP ps k) {p : PutV} (h1 : p.blk = (k : Int)) (h2 : p.l.length = 256) : WholeP (ps ++ [p]) (k + 1) := by
  refine ⟨by rw [List.length_append, h.1]; rfl, fun q hq => ?_⟩
  rcases List.mem_append.1 hq with hq | hq
  · obtain ⟨a, b, c⟩ := h.2 q hq
    exact ⟨a, by omega, c⟩
  · rw [List.mem_singleton] at hq
    subst hq
    exact ⟨by omega, by omega, h2⟩
theorem WholeP.may {ps : List PutV} {B : Nat} (h : WholeP ps B) : mayP B ps = true := by
  unfold mayP
  rw [Bool.and_eq_true, decide_eq_true_iff, List.all_eq_true]
  refine ⟨by rw [h.1]; exact Nat.le_refl _, fun p hp => ?_⟩
  obtain ⟨a, b, c⟩ := h.2 p hp
  unfold okP
  simp [a, b, c]
theorem PutsOwn.grown {w w' : World} {base : Nat} {V : Value} {ps : List PutV} (h : PutsOwn w base V ps) (hg : w.grownBy w' V.ownBlock) (hk : OwnE Tryd.eP w' base V ps) : PutsOwn w' base V ps := by
  refine ⟨hk, fun p hp => (h.2 p hp).keep fun g' hg' => ?_⟩
  refine hg.block g' ((h.2 p hp).lt hg').2 (fun e => ?_)
  obtain ⟨cs, hbk⟩ := OwnE.blk h.1 (g := g') e.symm
  exact (h.2 p hp).ne hbk (by decide) hg'
theorem two_new (wr : World) (o : Obj) (t : TypeId) (cs : Array Value) : Blk ((wr.alloc o).alloc (.cells cs t)) (wr.heap.size + 1) t cs := by
  have h := Blk.new (wr.alloc o) t cs
  simpa using h
theorem okByte (k : Nat) (hk : k < 256) : (#[.int .u8 (k : Int)] : Array Value) = (([UInt8.ofNat k] : List UInt8).map B).toArray := by
  have : (UInt8.ofNat k).toNat = k := by simp [UInt8.toNat_ofNat]; omega
  simp [B, this]
section
variable {H : Type} {enc : TypeId × Value → H}
/-- Bytes that came in, their number bounded by the bulk. -/
theorem open_rdB {W : World} {base : Nat} {v : Value} {d : DataW H} {p : List MemPlace} (hval : Value.okWide Tryd.prog W .any base 40 v) (h : DataW.Trod enc Tryd.prog W 0 (fun _ => true) true 40 v d p)
    (hw : ∀ q ∈ d.weights Tryd.prog 40, q ≤ reachBytes) : ∃ A m c l, v = .slice A m c ∧ m ≤ 140737488351232 ∧ Rd W A m c l := by
  obtain ⟨A, m, c, l, rfl, hr⟩ := open_rd hval h
  refine ⟨A, m, c, l, rfl, ?_, hr⟩
  obtain ⟨fuel, hf⟩ := h
  rcases open_slice Tryd.underlying40 hf with ⟨hcs, _⟩ | ⟨a, len, cap, m', n, D, Pl, hcs, _, hl, hm, hmm, hx, _⟩
  · simp [Value.cells] at hcs
    obtain ⟨rfl, rfl, rfl⟩ := hcs
    omega
  · simp [Value.cells] at hcs
    obtain ⟨rfl, rfl, rfl⟩ := hcs
    have h1 := hw ((((List.range m).map D).length + ((List.range (m' - m)).map fun j => D (m + j)).length) * Tryd.prog.bytesOf 5) (by
      have hd : d = _ := congrArg Prod.fst hx
      rw [hd]; simp [DataW.weights, Tryd.underlying40])
    rw [show Tryd.prog.bytesOf 5 = 1 from by kernel_rfl] at h1
    simp at h1
    unfold reachBytes at h1
    omega
end
set_option maxHeartbeats 4000000 in
theorem fsWhole_walk (SS : Int) (A1 : Option Addr) (m1 c1 : Nat) (bs : List UInt8) (w0 : World) (hK : KAt w0) (hS0 : -9223372036854775808 ≤ SS) (hS1 : SS ≤ 9223372036854775807) (hm1 : m1 ≤ 140737488351232) (hr : Rd w0 A1 m1 c1 bs) :
    Calls Tryd.prog 5 #[.int .i64 SS, .slice A1 m1 c1] w0 fun e w' => e = .returned (.bool true) ∧ Below w0.heap.size w0 w' := by
  have HW0 := Lib.hid (And.intro hK (And.intro hr (show bs.length ≤ 140737488351232 by rw [← hr.1]; exact hm1)))
  have hs := fun W => fsize_any SS hS0 hS1 W
  obtain ⟨h0, h1⟩ := sizeN_in SS
  obtain ⟨S, hZ⟩ : ∃ Z, sizeN SS = Z := ⟨_, rfl⟩
  obtain ⟨B, hB0⟩ : ∃ B, (S - 8) / 2 = B := ⟨_, rfl⟩
  simp only [hZ] at hs
  rw [hZ] at h0 h1
  have HBh := Lib.hid hB0
  have hB26 : B ≤ 26 := by omega
  have hB4 : 4 ≤ B := by omega
  clear hK hr hm1 hZ hB0
  go_enter Tryd.func5, Tryd.ntmps5
  go_wp2_with fail
  refine (begun_any w0 HW0.out.1).mono ?_
  rintro e w ⟨rfl, hb1⟩
  have H1 := Lib.hid hb1
  have HW := Lib.hid (And.intro (HW0.out.1.below hb1) (HW0.out.2.1.below hb1))
  clear hb1
  go_wp2_with fail
  refine (hs w).mono ?_
  rintro e w' ⟨rfl, rfl⟩
  clear hs
  have hn := dk_new S (by omega) (by omega) w
  go_wp2_with fail
  refine hn.mono ?_
  rintro e w2 ⟨d, L, rfl, hD, hd2, hL2, hO⟩
  obtain ⟨s0, hs0⟩ : ∃ s0, Dsk.new S = s0 := ⟨_, rfl⟩
  have hz := zeroD_new S
  have hsn := new_n S
  have hfo := new_fok S
  have hu0 : (Dsk.new S).fused = false ∧ (Dsk.new S).dead = false := ⟨rfl, rfl⟩
  rw [hs0] at hD hz hsn hfo hu0
  have hK2 := HW.out.1.below hO
  have hft := format_two d L s0 w2 hD (by omega) (by omega) hfo hz hK2
  obtain ⟨ok1, s1, hs1⟩ : ∃ ok1 s1, s0.fmt = (ok1, s1) := ⟨_, _, rfl⟩
  have hfc := fmt_cases hz (by omega) (by omega) hs1
  have hfk := fmt_fok hfo
  rw [hs1] at hfk
  obtain ⟨k1, k2, k3⟩ := hfc.2.2.2 hu0.1 hu0.2
  subst k1
  have hg1 := hfc.2.1 rfl
  have hn1 := hfc.1.trans hsn
  rw [hsn] at hg1
  have hf2 : s0.fmt2 = (true, s1) := by unfold Dsk.fmt2; rw [if_neg (by simp [hu0.2]), hs1]
  rw [hf2] at hft
  simp only [if_true] at hft
  have H2 := Lib.hid (And.intro hD (And.intro hK2 (And.intro hO (And.intro hg1 (And.intro hn1 (And.intro k2 (And.intro k3 hfk)))))))
  obtain ⟨X, hX⟩ : ∃ X, w.heap.size = X := ⟨_, rfl⟩
  rw [hX] at hd2 hL2
  have HX := Lib.hid hX
  clear hn hD hK2 hO hg1 hn1 k2 k3 hfk hfc hu0 hs1 hfo hsn hz hs0 hf2 hX
  go_wp2_with fail
  refine hft.mono ?_
  rintro e w3 ⟨rfl, hD3, hT3⟩
  have hK3 := H2.out.2.1.beside H2.out.1 hT3
  have hm3 := mount_good d L s1 0 _ w3 hD3 H2.out.2.2.2.1 (by omega) H2.out.2.2.2.2.2.1 hK3
  rw [H2.out.2.2.2.2.1] at hm3
  have hO3 : Old w w3 := below_turn H2.out.2.2.1 hT3 (by rw [HX.out]; simp; omega) H2.out.2.2.1.size
  have H3 := Lib.hid (And.intro hD3 hO3)
  clear hft hD3 hT3 hK3 hO3
  go_wp2_with fail
  refine hm3.mono ?_
  rintro e w4 ⟨v, rfl, hv4, hV4, hO4⟩
  have hB := HBh.out
  have hBi : ((S : Int) - 8).tdiv 2 = (B : Int) := by rw [Int.tdiv_eq_ediv_of_nonneg (by omega)]; omega
  have hS60 : (S : Int) ≤ 60 := by omega
  have hS16 : (16 : Int) ≤ S := by omega
  have hBl : B ≤ 26 := by omega
  have hXv : X ≤ v := by have := H3.out.2.size; rw [HX.out] at this; omega
  rw [hB] at hV4
  have H4 := Lib.hid (And.intro (H3.out.1.below hO4) (And.intro hV4 (And.intro (Old.trans H3.out.2 hO4) hB)))
  have hfr := fresh_any B (by omega) w4
  have kv := neVol
  have kv' := neVol'
  clear hm3 hv4 hV4 hO4 hB
  go_wp2_with fail
  clear kv kv'
  refine hfr.mono ?_
  rintro e w5 ⟨A5, m5, c5, rs, rfl, hM5, hrs, hO5⟩
  have hI5 : MdI w w5 S d L v B 0 0 s1 A5 m5 c5 rs := ⟨H4.out.1.below hO5, Blk.below H4.out.2.1 hO5, by rw [hrs, ← H4.out.2.2.2]; exact H2.out.2.2.2.1, H2.out.2.2.2.2.2.2.2, hM5.mono H4.out.2.2.1.size, Old.trans H4.out.2.2.1 hO5,
    by rw [HX.out]; exact hd2, by rw [HX.out]; exact hL2, by rw [HX.out]; exact hXv, H2.out.2.2.2.2.1, H4.out.2.2.2, H2.out.2.2.2.2.2.2.1, H2.out.2.2.2.2.2.1, Nat.le_refl _⟩
  have H5 := Lib.hid hI5
  clear hfr hM5 hrs hO5 hI5
  go_wp2_with fail
  obtain ⟨X5, hX5⟩ : ∃ X5, w5.heap.size = X5 := ⟨_, rfl⟩
  obtain rfl := H5.out.m_eq
  have HX5 := Lib.hid hX5
  clear hX5
  go_loopw [12, 13] (fun lv iv wr => ∃ (k : Nat) (A6 : Option Addr) (n6 c6 : Nat) (ps : List PutV), k ≤ m5 ∧ lv = .slice A6 n6 c6 ∧ iv = .int .i64 (k : Int) ∧ PutsOwn wr X5 (.slice A6 n6 c6) ps ∧ WholeP ps k ∧ Old w5 wr) (fun _ iv _ => m5 - (intOf iv).toNat)
  case atStart => exact ⟨0, none, 0, 0, [], by omega, rfl, rfl, ⟨OwnE.nil _ _, by simp⟩, ⟨rfl, by simp⟩, Old.refl _⟩
  case round =>
    obtain ⟨k, A6, n6, c6, ps, hk, rfl, rfl, hP, hwp, hO⟩ := hrel
    by_cases hlt : k < m5
    · have hlti : (k : Int) < m5 := by omega
      have hltd : decide ((k : Int) < (m5 : Int)) = true := decide_eq_true hlti
      have g1 : IntKind.u8.wrap (k : Int) = (k : Int) := wraps_u8 _ (by omega) (by show (k : Int) < 256; omega)
      have HX := Lib.hid (And.intro hP (And.intro hwp (And.intro hO (show Rd wr A1 m1 c1 bs from (HW.out.2.below H5.out.O).below hO))))
      have hXr : X5 ≤ wr.heap.size := by rw [← HX5.out]; exact hO.size
      have HXr := Lib.hid hXr
      clear hP hwp hO hXr
      go_wp2_with (at_builtin; go_loud (first | (refine wp_appB rfl (.tmp 55) (.tmp 56) rfl wr.heap.size _ [UInt8.ofNat k] rfl (own_lit (okByte k (by omega)) rfl (by simp)) A1 m1 c1 bs rfl (HX.out.2.2.2.below ((Old.refl wr).alloc _)) (by have := HW0.out.2.2; simp; omega) (by simp) (fun v' w' h1 h2 _ _ => ?_); have hFV := Lib.hid (And.intro h1 h2); clear h1 h2)))
      obtain ⟨Ab, cb, rfl, _⟩ := hFV.out.1.shape
      have hOb : Old wr w' := (((Below.refl wr.heap.size wr).alloc (Nat.le_refl _) _)).grown hFV.out.2 (by simp) (fun k hk => by cases hk; exact Nat.le_refl _)
      have HOb := Lib.hid hOb
      clear hOb g1
      go_wp2_with fail
      refine (full_any _ _ _ _ _ _ hFV.out.1.rd).mono ?_
      rintro e w6 ⟨g, rfl, hO6, hb6⟩
      have hl6 := full256_len ([UInt8.ofNat k] ++ bs)
      obtain ⟨fl, hfl⟩ : ∃ fl, full ([UInt8.ofNat k] ++ bs) 256 = fl := ⟨_, rfl⟩
      rw [hfl] at hO6 hl6 ⊢
      rw [hl6] at hO6 ⊢
      have hO06 := Old.trans HOb.out hb6
      have hP6 := HX.out.1.below hO06
      have hp6l : ps.length ≤ 60 := by rw [HX.out.2.1.1]; omega
      have H6 := Lib.hid (And.intro hO6 (And.intro hP6 (And.intro hO06 (And.intro hl6 (And.intro hp6l (show X5 ≤ w6.heap.size from Nat.le_trans HXr.out hO06.size))))))
      clear hO6 hb6 hO06 hP6 hl6 hfl hp6l
      go_wp2_with (at_builtin; go_loud (refine wp_appE Tryd.eP (.tmp 51) (.tmp 60) X5 (.slice A6 n6 c6) ps (H6.out.2.1.1.below ((Old.refl w6).alloc _)) (by have := H6.out.2.2.2.2.2; simp; omega) (some ⟨w6.heap.size, 0, none⟩) 1 1 [⟨(k : Int), some ⟨g, 0, none⟩, 256, 256, fl⟩] (Blk.rdC Tryd.eP (Blk.new _ _ _) rfl) (fun h => by cases h) (by have := H6.out.2.2.2.2.1; simp; omega) rfl rfl rfl rfl ?_); intro A9 n9 c9 w9 hG; have H9 := Lib.hid hG; clear hG)
      go_roundw
      case measure => simp [intOf]; omega
      have hown : ∀ p : PutV, Own w6 X5 (.slice p.A p.n p.c) p.l → Own w9 X5 (.slice p.A p.n p.c) p.l := fun p hp => by
        have hp2 := hp.below ((Old.refl w6).alloc (.cells #[.int .i64 (k : Int), .slice (some ⟨g, 0, none⟩) 256 256] 42))
        refine hp2.keep fun g' hg' => ?_
        refine H9.out.grown.block g' (hp2.lt hg').2 (fun e => ?_)
        obtain ⟨cs, hbk⟩ := OwnE.blk (H6.out.2.1.1.below ((Old.refl w6).alloc (.cells #[.int .i64 (k : Int), .slice (some ⟨g, 0, none⟩) 256 256] 42))) (g := g') e.symm
        exact hp2.ne hbk (by decide) hg'
      refine ⟨k + 1, A9, n9, c9, ps ++ [⟨(k : Int), some ⟨g, 0, none⟩, 256, 256, fl⟩], by omega, rfl, by simp, ⟨H9.out.own, fun r hr => ?_⟩, HX.out.2.1.snoc rfl H6.out.2.2.2.1, ?_⟩
      · rcases List.mem_append.1 hr with hr | hr
        · exact hown r (H6.out.2.1.2 r hr)
        · rw [List.mem_singleton] at hr
          subst hr
          exact hown _ (H6.out.1.mono (Nat.le_trans HXr.out (by have := HOb.out.size; omega)))
      · have hA : Old w5 w6 := Old.trans HX.out.2.2.1 H6.out.2.2.1
        have hB9 := H9.out.below
        exact Below.trans ((hA.alloc _)) (by rw [HX5.out]; exact hB9)
    · obtain rfl : k = m5 := by omega
      have hlti : ¬ (k : Int) < k := by omega
      have hltd : decide ((k : Int) < (k : Int)) = false := decide_eq_false hlti
      have hmk := Tryd.prog_make 256 (by decide) wr
      rw [show ((256 : Nat) : Int) = 256 from rfl] at hmk
      have hp6l : ps.length ≤ 60 := by rw [hwp.1]; omega
      have HX := Lib.hid (And.intro hP (And.intro hwp (And.intro (H5.out.below hO) (And.intro hO (And.intro hp6l (show X5 ≤ wr.heap.size by rw [← HX5.out]; exact hO.size))))))
      clear hP hwp hO hp6l
      go_wp2_with (at_builtin; go_loud (refine wp_appE_keep Tryd.eP (.tmp 63) (.tmp 66) X5 (.slice A6 n6 c6) ps (HX.out.1.1.below (((Old.refl wr).alloc _).alloc _)) (by have := HX.out.2.2.2.2.2; simp; omega) ⟨wr.heap.size + 1, 0, none⟩ 1 1 [⟨0, some ⟨wr.heap.size, 0, none⟩, 256, 256, []⟩] (Blk.rdC Tryd.eP (two_new _ _ _ _) rfl) (by have := HX.out.2.2.2.2.1; simp; omega) rfl rfl rfl rfl ?_); intro A9 n9 c9 w9 hG; have H9 := Lib.hid hG; clear hG)
      obtain rfl : n6 = ps.length := HX.out.1.1.len
      have hO9 : Old w5 w9 := Below.trans (((HX.out.2.2.2.1).alloc _).alloc _) (by rw [HX5.out]; exact H9.out.1.below)
      have hI9 := H5.out.below hO9
      have hP9 : PutsOwn w9 X5 (.slice A6 ps.length c6) ps := PutsOwn.grown ((HX.out.1).below (((Old.refl wr).alloc _).alloc _)) H9.out.1.grown H9.out.2
      have hpk := HX.out.2.1.1
      have hn9 : n9 = k + 1 := by have := H9.out.1.own.len; rw [List.length_append, hpk] at this; exact this
      have hcm := commit_many v d k 0 false A9 n9 c9 w9 hI9.V (by omega)
      have HM := Lib.hid (And.intro hpk (And.intro HX.out.2.1.may (show Old w w5 from H5.out.O)))
      have HP9 := Lib.hid (And.intro hI9 hP9)
      clear hO9 hI9 hP9 hpk hn9 hmk
      go_wp2_with fail
      refine hcm.mono ?_
      rintro e w' ⟨rfl, rfl⟩
      have his := is_good v d L 0 k false s1 A5 k c5 _ rs w9 HP9.out.1.V HP9.out.1.D HP9.out.1.M HP9.out.1.G (by rw [HP9.out.1.sn, HP9.out.1.hB]) (by omega)
      clear hcm
      go_wp2_with fail
      refine his.mono ?_
      rintro e w10 ⟨rfl, hO10⟩
      have hI10 := HP9.out.1.below hO10
      have hP10 := HP9.out.2.below hO10
      have hcm := commit_two v d L k 0 (1000 * 0 + 4) X5 A6 ps.length c6 ps s1 _ w10 hI10.V hI10.D (HW.out.1.below hI10.O) hP10 hI10.G (by rw [hI10.sn, hI10.hB]) (by omega) hI10.F (by omega)
      have H10 := Lib.hid (And.intro hI10 hP10)
      clear his hO10 hI10 hP10
      go_wp2_with fail
      refine hcm.mono ?_
      rintro e w7 (⟨hx, _⟩ | ⟨_, hx, _⟩ | ⟨_, _, rfl, hD7, hV7, hT7⟩)
      · rw [HM.out.2.1] at hx; cases hx
      · exfalso; have := HM.out.1; rw [hx] at this; simp at this; omega
      obtain ⟨s', hs', hG', hF', hn', hu', hd'⟩ := turn_live (m2 := after (rs.map (·.l)) (ps.map toPut)) H10.out.1.G H10.out.1.F H10.out.1.fu H10.out.1.de (by rw [after_len, List.length_map, H10.out.1.len, H10.out.1.sn, H10.out.1.hB])
      rw [hs'] at hD7 hV7 ⊢
      simp only [if_true, Bool.not_true] at hD7 hV7 ⊢
      obtain ⟨hO7, hM7, hP7⟩ := H10.out.1.turned hT7
      have haf := H10.out.1.after_call (w' := w7) hM7 hO7 (base := X5) (by rw [← HX5.out]; exact HM.out.2.2.size) (hP7 _ _ _ H10.out.2) HM.out.2.1
      have H7 := Lib.hid (And.intro hD7 (And.intro hV7 (And.intro hG' (And.intro hF' (And.intro hn' (And.intro hu' (And.intro hd' hT7)))))))
      clear hcm hD7 hV7 hG' hF' hn' hu' hd' hT7 hO7 hM7 hP7 hs'
      go_wp2_with fail
      refine haf.mono ?_
      rintro e w8 ⟨A8, m8, c8, rs8, rfl, hM8, hrs8, hO8⟩
      have hI8 := H10.out.1.done H7.out.1 H7.out.2.1 (by rw [hrs8]; exact H7.out.2.2.1) H7.out.2.2.2.1 H7.out.2.2.2.2.1 H7.out.2.2.2.2.2.1 H7.out.2.2.2.2.2.2.1 H7.out.2.2.2.2.2.2.2 hM8 hO8
      have hcr := dk_lost hI8.D
      have H8 := Lib.hid hI8
      clear haf hM8 hrs8 hO8 hI8
      go_wp2_with fail
      refine hcr.mono ?_
      rintro e w11 ⟨d11, L11, rfl, hD11, _, _, hO11⟩
      obtain ⟨f1, f2, _⟩ := crash_fresh s' (fun _ => false)
      have hn11 := crash_n s' (fun _ => false)
      have hG11 := H8.out.G.crash (fun _ => false)
      obtain ⟨s11, hs11⟩ : ∃ s11, s'.crash (fun _ => false) = s11 := ⟨_, rfl⟩
      have hDv : Dev w11 d11 L11 (0 + 1) s11 S (rs8.map (·.l)) := ⟨by rw [← hs11]; exact hD11, by rw [← hs11]; exact hG11, by rw [← hs11, hn11]; exact H8.out.sn, by rw [← hs11]; exact f2, by rw [← hs11]; exact f1⟩
      have hI11 := H8.out.below hO11
      have hmn := hDv.mount hI11.hB (HW.out.1.below hI11.O) (by omega)
      have H11 := Lib.hid hI11
      clear hcr hD11 hO11 f1 f2 hn11 hG11 hs11 hDv hI11
      go_wp2_with fail
      refine hmn.mono ?_
      rintro e w12 ⟨v12, rfl, _, hm12, _, hO12⟩
      have hI12 := H11.out.below hO12
      have his := is_good v d L (0 + 1) k false s' A8 m8 c8 _ rs8 w12 hI12.V hI12.D hI12.M hI12.G (by rw [hI12.sn, hI12.hB]) (by omega)
      have H12 := Lib.hid (And.intro hI12 hm12)
      clear hmn hm12 hO12 hI12
      go_wp2_with fail
      refine his.mono ?_
      rintro e w13 ⟨rfl, hO13⟩
      have hI13 := H12.out.1.below hO13
      have his := (H12.out.2.below hO13).is_good hI13.M rfl hI13.hB (by omega)
      have H13 := Lib.hid hI13
      clear hO13 hI13
      go_wp2_with fail
      refine his.mono ?_
      rintro e w14 ⟨rfl, hO14⟩
      have H14 := Lib.hid (Old.trans H1.out (H13.out.below hO14).O)
      clear his hO14
      go_wp2_with fail
      go_ret
      exact ⟨rfl, H14.out⟩
end Go.Proofs.YtomngfihaohgdaaDoor
