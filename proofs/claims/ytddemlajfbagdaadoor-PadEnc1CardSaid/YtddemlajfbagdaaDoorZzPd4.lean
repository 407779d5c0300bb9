/-
  append of zeros: 'append(b, make([]byte, k)...)'.
  Pad: OAEP is made.
  Bytes as the walk meets them: shifts, and, or, products. Over any program.
  Pad: the zeros ahead are cut off.
-/
import Derived.Test.YtddemlajfbagdaaDoorZzApp2
import Derived.Lib.AppendZerosOnto
import Derived.Test.YtddemlajfbagdaaDoorZzPd3
import Derived.Test.YtddemlajfbagdaaDoorZzRh1
import Derived.Test.YtddemlajfbagdaaDoorZzMade
import Derived.Test.YtddemlajfbagdaaDoorZzPq2
import Derived.Test.YtddemlajfbagdaaDoorWords
import Derived.Test.YtddemlajfbagdaaDoorZzPd2
namespace Go.Proofs.YtddemlajfbagdaaDoor
open Go.RowKit

theorem zeroCells_toList (k : Nat) : (Builtin.zeroCells #[.int .u8 0] k).toList = (zs k).map B := by
  unfold Builtin.zeroCells zs
  rw [List.map_replicate]
  apply List.ext_getElem?
  intro j
  by_cases h : j < k
  · simp [h, B, Nat.mod_one]
  · simp [h]
theorem run_append_ownZ (w : World) (base : Nat) (ty : TypeId) (v : Value) (l : List UInt8) (hown : Own w base v l) (k : Nat) (h0 : 0 < k) (hlen : l.length + k ≤ 1000000) (hbase : base ≤ w.heap.size) :
    ∃ v' w', (Builtin.append_ #[22, 3] ty #[v, .int .i64 (k : Int)]).run Tryd.prog w = .ok v' w' ∧ Own w' base v' (l ++ zs k) ∧ w.grownBy w' v.ownBlock ∧ v' ≠ .slice none 0 0 ∧ (v'.ownBlock = v.ownBlock ∨ v'.ownBlock = some w.heap.size) := by
  obtain ⟨i, hi, hz, hsz, hby⟩ := info_parts Tryd.infoU8
  have hzl := zeroCells_toList k
  have hcz : (Value.int .u8 0).cells = #[.int .u8 0] := rfl
  have hlz : ((l ++ zs k).map B).length = l.length + k := by simp [zs]
  have grown : ∀ (old : Nat), old < l.length + k → ∀ (row : Option Nat),
      Own (w.drew.alloc (.cells ((l.map B).toArray ++ Builtin.zeroCells #[.int .u8 0] k ++ Builtin.zeroCells #[.int .u8 0] (grownCap w (l.length + k) old 5 - (l.length + k))) 5)) base
        (.slice (some ⟨w.heap.size, 0, none⟩) (l.length + k) (grownCap w (l.length + k) old 5)) (l ++ zs k) ∧
      w.grownBy (w.drew.alloc (.cells ((l.map B).toArray ++ Builtin.zeroCells #[.int .u8 0] k ++ Builtin.zeroCells #[.int .u8 0] (grownCap w (l.length + k) old 5 - (l.length + k))) 5)) row := by
    intro old ho row
    have hge := grownCap_ge w (l.length + k) old 5
    have hcm : grownCap w (l.length + k) old 5 ≤ maxLen := grownCap_le_maxLen w (l.length + k) old 5 (by unfold maxLen; omega)
    have hll : (l ++ zs k).length = l.length + k := by simp [zs]
    refine ⟨⟨by simp, .inr ⟨w.heap.size, _, _, by rw [hll], hbase, heap_alloc_new w.drew _, by rw [hll]; exact hge, hcm, ?_, ?_⟩⟩, ⟨rfl, rfl, rfl, by simp, fun j hj _ => heap_alloc_old w.drew _ hj⟩⟩
    · simp only [Array.size_append, List.size_toArray, size_zeroCells, List.length_map]
      simp
      omega
    · simp only [Array.toList_append, hzl]
      rw [← List.map_append, Nat.mul_one]
      exact List.take_left' (by simp)
  rcases hown.2 with ⟨rfl, hl⟩ | ⟨g, cap, cur, rfl, hbg, hg, hnc, hcm, hcs, htake⟩
  · have hx : l = [] := by simpa using hl
    subst hx
    have hr := Lib.run_append_nil_zeros (P := Tryd.prog) w 22 3 ty 5 i (.int .u8 0) .i64 .i64 Tryd.underlying22 Tryd.underlying3 hi hz k h0 (by omega) (by simp at hlen; omega) (by rw [hby]; simp at hlen; omega)
    have hgr := grown 0 (by simp; omega) (Value.ownBlock (.slice none 0 0))
    simp only [List.length_nil, Nat.zero_add, List.map_nil, Array.empty_append, List.nil_append] at hgr ⊢
    rw [hcz] at hr
    exact ⟨_, _, hr, hgr.1, hgr.2, by simp, .inr rfl⟩
  · by_cases hroom : l.length + k ≤ cap
    · have hst := run_storeCells_at Tryd.prog g l.length 5 ((zs k).map B) 0 cur w hg (by simp [zs]; rw [hcs]; simp; omega) (by simp [zs, B, Value.oneCell'])
      simp only [Nat.add_zero] at hst
      have hw : IntKind.i64.wrap (k : Int) = k := IntWalk.i64_in _ (by omega)
      have h48i : ¬ (281474976710656 < (k : Int)) := by omega
      have hneg : ¬ ((k : Int) < 0) := by omega
      have hk0 : k ≠ 0 := by omega
      have hrun : (Builtin.append_ #[22, 3] ty #[.slice (some ⟨g, 0, none⟩) l.length cap, .int .i64 (k : Int)]).run Tryd.prog w = .ok (.slice (some ⟨g, 0, none⟩) (l.length + k) cap) (w.setRow g (cur.toList.take l.length ++ (zs k).map B ++ cur.toList.drop (l.length + ((zs k).map B).length)).toArray) := by
        simp [Builtin.append_, run_underlying Tryd.underlying22, run_underlying Tryd.underlying3, sizeOf, typeInfo, zeroValue, hi, hz, hsz, hby, asInt, asIntOf, hw, hneg, h48i, hk0, hroom, Value.cells, Addr.add_lit, zeroCells_toList, hst]
      refine ⟨_, _, hrun, ⟨by simp, .inr ⟨g, cap, _, by simp [zs], hbg, setRow_heap w g cur _ 5 _ hg, by simp [zs]; omega, hcm, ?_, ?_⟩⟩, ⟨rfl, rfl, rfl, by simp, fun k _ hk => setRow_other w g k _ (fun e => hk (by simp [Value.ownBlock, e]))⟩, by simp, .inl rfl⟩
      · simp only [List.size_toArray, List.length_append, List.length_take, List.length_drop, Array.length_toList, List.length_map]
        have : (zs k).length = k := by simp [zs]
        rw [hcs] at *
        simp
        omega
      · have htake' : cur.toList.take l.length = l.map B := by simpa using htake
        simp only [htake']
        rw [← List.map_append, Nat.mul_one]
        exact List.take_left' (by simp)
    · have hold : (Builtin.firstCells i.size l.length (.slice (some ⟨g, 0, none⟩) l.length cap)).run Tryd.prog w.drew = .ok (l.map B).toArray w.drew := by
        have hc := hown.cells (g := g) rfl
        have := run_firstCells_some (P := Tryd.prog) w.drew i.size l.length ⟨g, 0, none⟩ l.length cap (l.map B) (by simp [hsz]) (fun j u hj => hc j u hj)
        exact this
      have hr := Lib.run_append_grow_zeros (P := Tryd.prog) w 22 3 ty 5 i (.int .u8 0) .i64 .i64 Tryd.underlying22 Tryd.underlying3 hi hz (some ⟨g, 0, none⟩) l.length cap (l.map B) hold k h0 (by omega) (by omega) (by omega) (by rw [hby]; omega) (growslice_fits (by omega) (by rw [hby]; omega))
      have hgr := grown cap (by omega) (Value.ownBlock (.slice (some ⟨g, 0, none⟩) l.length cap))
      rw [hcz] at hr
      exact ⟨_, _, hr, hgr.1, hgr.2, by simp, .inr rfl⟩
/-- The operation in a walk. -/
theorem wp_appZ {ops : Array Oper} {rest : List Oper} {o : Oper} {a : Act} {w : World} {Q : Exit → Act → World → Prop} (s x : Operand) (base : Nat) (v : Value) (l : List UInt8) (hown : Own w base v l) (hbase : base ≤ w.heap.size)
    (k : Nat) (h0 : 0 < k) (hlen : l.length + k ≤ 1000000) (hgd : o.guard = none)
    (ho : o.op = .call { callee := .builtin .append, args := #[s, x], argTypes := #[22, 3] }) (hs : a.eval s = v) (hx : a.eval x = .int .i64 (k : Int))
    (h : ∀ (A' : Option Addr) (n' c' : Nat) (w' : World), (n' : Int) ≤ 9223372036854775807 → Grew base w w' v A' n' c' (l ++ zs k) → wpList Tryd.prog ops Q rest (a.put o.dst (.slice A' n' c')) w') : wpList Tryd.prog ops Q (o :: rest) a w := by
  obtain ⟨v', w', hr, h1, h2, h3, h4⟩ := run_append_ownZ w base o.type v l hown k h0 hlen hbase
  have hz : zs k ≠ [] := fun e => by have h9 := congrArg List.length e; simp [zs] at h9; omega
  obtain ⟨A', n', c', rfl, hn, hG⟩ := grew_of (l2 := zs k) hown hbase h1 h2 (by simp [h3, hz]) h4
  exact Lib.wpList_append_run w hgd s x _ _ ho _ _ hs hx _ _ hr (h _ _ _ _ hn hG)
end Go.Proofs.YtddemlajfbagdaaDoor
namespace Go.Proofs.YtddemlajfbagdaaDoor
set_option maxRecDepth 100000
open Go.RowKit

theorem run_append_Z0 (w : World) (base : Nat) (ty : TypeId) (v : Value) (l : List UInt8) (hown : Own w base v l) :
    (Builtin.append_ #[22, 3] ty #[v, .int .i64 0]).run Tryd.prog w = .ok v w := by
  obtain ⟨i, hi, hz, hsz, hby⟩ := info_parts Tryd.infoU8
  have hw : IntKind.i64.wrap 0 = 0 := by decide
  rcases hown.2 with ⟨rfl, _⟩ | ⟨g, cap, cur, rfl, _, _, hnc, _⟩
  · simp [Builtin.append_, run_underlying Tryd.underlying22, run_underlying Tryd.underlying3, sizeOf, typeInfo, zeroValue, hi, hz, hsz, hby, asInt, asIntOf, hw, Builtin.lenOf, Builtin.firstCells, loadCells, loadCellsFrom]
  · simp [Builtin.append_, run_underlying Tryd.underlying22, run_underlying Tryd.underlying3, sizeOf, typeInfo, zeroValue, hi, hz, hsz, hby, asInt, asIntOf, hw, Builtin.lenOf, Builtin.firstCells, hnc, storeCells, loadCells, loadCellsFrom]
/-- So many zeros are set behind a row, none too. -/
theorem wp_appZ1 {ops : Array Oper} {rest : List Oper} {o : Oper} {a : Act} {w : World} {Q : Exit → Act → World → Prop} (s x : Operand) (base : Nat) (A : Option Addr) (n c : Nat) (l : List UInt8) (hown : Own w base (.slice A n c) l) (hbase : base ≤ w.heap.size)
    (k : Nat) (hlen : l.length + k ≤ 1000000) (hgd : o.guard = none)
    (ho : o.op = .call { callee := .builtin .append, args := #[s, x], argTypes := #[22, 3] }) (hs : a.eval s = .slice A n c) (hx : a.eval x = .int .i64 (k : Int))
    (h : ∀ (A' : Option Addr) (n' c' : Nat) (w' : World), (n' : Int) ≤ 9223372036854775807 → Own w' base (.slice A' n' c') (l ++ zs k) → Below base w w' → wpList Tryd.prog ops Q rest (a.put o.dst (.slice A' n' c')) w') : wpList Tryd.prog ops Q (o :: rest) a w := by
  rcases Nat.eq_zero_or_pos k with rfl | h0
  · refine wpList_plain hgd fun K hK => ?_
    have hrun := run_append_Z0 w base o.type _ l hown
    have hx0 : a.eval x = .int .i64 0 := hx
    have hl := hown.len
    unfold Oper.wp
    simp only [execOp, ho, resolve, invoke, builtin, Sem.run_bind, Sem.run_pure, Result.andThen_ok, List.map_toArray, List.map_cons, List.map_nil, hs, hx0, hrun]
    exact hK _ _ (h A n c w (by omega) (by simpa [zs] using hown) (Below.refl _ _))
  · exact wp_appZ s x base _ l hown hbase k h0 hlen hgd ho hs hx fun A' n' c' w' hn hG => h A' n' c' w' hn hG.own hG.below

theorem hsize_in (kind : Int) (h : hsize kind ≠ 0) : 1 ≤ kind ∧ kind ≤ 5 := by
  by_cases h1 : 1 ≤ kind ∧ kind ≤ 5
  · exact h1
  · exfalso; apply h
    unfold hsize
    rw [if_neg (by omega), if_neg (by omega), if_neg (by omega), if_neg (by omega), if_neg (by omega)]
def encOF (kind n : Int) (label seed m : List UInt8) : List UInt8 × Int :=
  if hsize kind = 0 ∨ 65536 < n ∨ (seed.length : Int) ≠ hsize kind then ([], 7) else if n < 2 * hsize kind + 2 ∨ n - 2 * hsize kind - 2 < (m.length : Int) then ([], 33)
  else (encO (hsize kind).toNat (rof kind) (mask kind) n.toNat label seed m, 0)
set_option maxHeartbeats 8000000 in
theorem enco_any (kind n : Int) (A1 A2 A3 : Option Addr) (m1 c1 m2 c2 m3 c3 : Nat) (label seed ms : List UInt8) (w : World) (h1 : Rd w A1 m1 c1 label) (h2 : Rd w A2 m2 c2 seed) (h3 : Rd w A3 m3 c3 ms) (hK : KAt w) (hn : n ≤ 200 ∨ 65536 < n) (hn0 : -9223372036854775808 ≤ n) (hm1 : m1 ≤ 1000) (hm2 : m2 ≤ 1000) (hm3 : m3 ≤ 1000) :
    Calls Tryd.prog 16 #[.int .i64 kind, .int .i64 n, .slice A1 m1 c1, .slice A2 m2 c2, .slice A3 m3 c3] w (PRes w (encOF kind n label seed ms)) := by
  obtain ⟨h, hh⟩ : ∃ h, hsize kind = h := ⟨_, rfl⟩
  have hsz := size_any kind w
  have h64 := hsize_64 kind
  have hin := hsize_in kind
  have hl1 := h1.1
  have hl2 := h2.1
  have hl3 := h3.1
  unfold encOF
  rw [← hl2, ← hl3]
  rw [hh] at hsz h64 hin ⊢
  have HS := Lib.hid hsz
  clear hsz
  by_cases d1 : h = 0
  · rw [if_pos (.inl d1)]
    subst d1
    clear h64 hh hin h1 h2 h3 hl1 hl2 hl3 hK
    go_enter Tryd.func16, Tryd.ntmps16
    go_wp2_with fail
    refine HS.out.mono ?_
    rintro e w' ⟨rfl, rfl⟩
    go_wp2_with fail
    refine bodyPost_ret (results_tmp2 rfl _ _ _) rfl ?_
    exact ⟨none, 0, 0, rfl, Rd.nil _, Old.refl _⟩
  · have b1 : (h == 0) = false := by simpa using d1
    by_cases d2 : 65536 < n
    · rw [if_pos (.inr (.inl d2))]
      have c2i : n > 65536 := d2
      have b2 : decide (n > 65536) = true := decide_eq_true d2
      clear h64 hh hin h1 h2 h3 hl1 hl2 hl3 hK
      go_enter Tryd.func16, Tryd.ntmps16
      go_wp2_with fail
      refine HS.out.mono ?_
      rintro e w' ⟨rfl, rfl⟩
      go_wp2_with fail
      refine bodyPost_ret (results_tmp2 rfl _ _ _) rfl ?_
      exact ⟨none, 0, 0, rfl, Rd.nil _, Old.refl _⟩
    · have c2i : ¬ n > 65536 := d2
      have b2 : decide (n > 65536) = false := decide_eq_false d2
      by_cases d3 : (m2 : Int) = h
      · rw [if_neg (fun hx => hx.elim d1 (fun hx => hx.elim d2 (fun hx => hx d3)))]
        subst d3
        obtain ⟨q, hq⟩ : ∃ q, 2 * (m2 : Int) = q := ⟨_, rfl⟩
        have hqw : IntKind.i64.wrap q = q := IntWalk.i64_in _ (by omega)
        obtain ⟨q2, hq2⟩ : ∃ q2, q + 2 = q2 := ⟨_, rfl⟩
        have hq2w : IntKind.i64.wrap q2 = q2 := IntWalk.i64_in _ (by omega)
        rw [hq, hq2]
        by_cases d4 : n < q2
        · rw [if_pos (.inl d4)]
          have b4 : decide (n < q2) = true := decide_eq_true d4
          clear h64 hh hin h1 h2 h3 hl1 hl2 hl3 hK
          go_enter Tryd.func16, Tryd.ntmps16
          go_wp2_with fail
          refine HS.out.mono ?_
          rintro e w' ⟨rfl, rfl⟩
          go_wp2_with fail
          refine bodyPost_ret (results_tmp2 rfl _ _ _) rfl ?_
          exact ⟨none, 0, 0, rfl, Rd.nil _, Old.refl _⟩
        · have b4 : decide (n < q2) = false := decide_eq_false d4
          obtain ⟨r, hr⟩ : ∃ r, n - q = r := ⟨_, rfl⟩
          have hrw : IntKind.i64.wrap r = r := IntWalk.i64_in _ (by omega)
          obtain ⟨r2, hr2⟩ : ∃ r2, r - 2 = r2 := ⟨_, rfl⟩
          have hr2w : IntKind.i64.wrap r2 = r2 := IntWalk.i64_in _ (by omega)
          rw [hr, hr2]
          by_cases d5 : r2 < (m3 : Int)
          · rw [if_pos (.inr d5)]
            have c5i : (m3 : Int) > r2 := d5
            have b5 : decide ((m3 : Int) > r2) = true := decide_eq_true d5
            clear h64 hh hin h1 h2 h3 hl1 hl2 hl3 hK
            go_enter Tryd.func16, Tryd.ntmps16
            go_wp2_with fail
            refine HS.out.mono ?_
            rintro e w' ⟨rfl, rfl⟩
            go_wp2_with fail
            refine bodyPost_ret (results_tmp2 rfl _ _ _) rfl ?_
            exact ⟨none, 0, 0, rfl, Rd.nil _, Old.refl _⟩
          · rw [if_neg (fun hx => hx.elim d4 d5)]
            have c5i : ¬ (m3 : Int) > r2 := d5
            have b5 : decide ((m3 : Int) > r2) = false := decide_eq_false d5
            obtain ⟨k, hk⟩ := Int.eq_ofNat_of_zero_le (show 0 ≤ r2 - (m3 : Int) by omega)
            have hkw : IntKind.i64.wrap (k : Int) = (k : Int) := IntWalk.i64_in _ (by omega)
            obtain ⟨T, hT⟩ : ∃ T, encO (Int.toNat (m2 : Int)) (rof kind) (mask kind) n.toNat label seed ms = T := ⟨_, rfl⟩
            rw [hT]
            have hki := hin d1
            have hrl := rof_len kind hki label (by omega)
            rw [hh, Int.toNat_natCast] at hrl
            rw [Int.toNat_natCast] at hT
            have hm21 : 1 ≤ m2 := by omega
            have hkN : k = n.toNat - 2 * m2 - 2 - ms.length := by omega
            obtain ⟨L, hL⟩ : ∃ L, rof kind label = L := ⟨_, rfl⟩
            have hT' : 0 :: (xorB seed (mask kind (xorB (((L ++ zs k) ++ [1]) ++ ms) (mask kind seed (((L ++ zs k) ++ [1]) ++ ms).length)) m2) ++ xorB (((L ++ zs k) ++ [1]) ++ ms) (mask kind seed (((L ++ zs k) ++ [1]) ++ ms).length)) = T := by
              rw [← hT]
              have hdb : oaepDb m2 (rof kind) n.toNat label ms = ((L ++ zs k) ++ [1]) ++ ms := by
                unfold oaepDb zs; rw [hL, hkN]; simp
              unfold encO
              rw [hdb]
            rw [hL] at hrl
            have hdl : (((L ++ zs k) ++ [1]) ++ ms).length = m2 + k + 1 + m3 := by simp only [List.length_append, zs_len, List.length_singleton]; omega
            have hall : m2 + k + 1 + m3 ≤ 200 := by omega
            have hof := fun (x c : Nat) (A : Option Addr) (m : Nat) (W : World) (hp : PartsAt W A m c [label]) (hK : KAt W) => of_res_all kind A m c [label] W hp (by simp; omega) hK
            simp only [List.flatten_cons, List.flatten_nil, List.append_nil, hL] at hof
            have hof := hof 0
            obtain ⟨w1, hw1⟩ : ∃ w1, w.alloc (.cells #[.slice A1 m1 c1] 22) = w1 := ⟨_, rfl⟩
            have hO1 : Old w w1 := by rw [← hw1]; exact (Old.refl w).alloc _
            have hP1 : PartsAt w1 (some ⟨w.heap.size, 0, none⟩) 1 1 [label] := rd_one (by rw [← hw1]; exact Blk.new _ _ _) (h1.below hO1)
            have hcall := hof 1 (some ⟨w.heap.size, 0, none⟩) 1 w1 hP1 (hK.below hO1)
            have HH := Lib.hid (And.intro hO1 (And.intro hcall (And.intro h2 (And.intro h3 (And.intro hK (And.intro hT' (And.intro hki (And.intro hdl (And.intro hall (And.intro hm21 (And.intro hrl (And.intro hl2 hl3))))))))))))
            clear hO1 hP1 hcall h1 h2 h3 hK hT hT' hki hrl hdl hall hl1 hl2 hl3 hm1 hm2 hm3 hh hin h64 hof hm21 hkN hL hn hn0
            go_enter Tryd.func16, Tryd.ntmps16
            go_wp2_with fail
            refine HS.out.mono ?_
            rintro e w' ⟨rfl, rfl⟩
            go_wp2_with fail
            refine HH.out.2.1.mono ?_
            rintro e w2 ⟨A4, n4, c4, rfl, hR2, hB2⟩
            have H2 := Lib.hid (And.intro hR2 (Old.trans HH.out.1 hB2))
            have HL := Lib.hid (And.intro hB2.size HH.out.1.size)
            clear hR2 hB2 hw1
            go_upto_region 7 with (at_builtin; refine wp_appZ1 (.tmp 48) (.tmp 56) w1.heap.size A4 n4 c4 L H2.out.1 HL.out.1 k (by have h1 := HH.out.2.2.2.2.2.2.2.2.2.2.1; have h2 := HH.out.2.2.2.2.2.2.2.2.1; omega) rfl rfl rfl rfl ?_; intro A5 n5 c5 w3 hn5 hO5 hB5; have H3 := Lib.hid (And.intro (hO5.mono HL.out.2) (show Old w w3 from Below.trans H2.out.2 (hB5.mono HL.out.2))); clear hO5 hB5)
            go_wp2_with (first | (at_builtin; refine wp_app_lit (.tmp 60) (.tmp 61) w.heap.size (.slice A5 n5 c5) _ H3.out.1 H3.out.2.size [1] (by have h1 := HH.out.2.2.2.2.2.2.2.2.2.2.1; have h2 := HH.out.2.2.2.2.2.2.2.2.1; simp [zs_len]; omega) (by simp) rfl rfl rfl rfl rfl rfl ?_; intro A6 n6 c6 w4 hn6 hG6; have H4 := Lib.hid (And.intro hG6.own (show Old w w4 from Below.trans (H3.out.2.alloc _) hG6.below)); clear hG6) | (at_builtin; refine wp_app2 (.tmp 62) (.tmp 63) w.heap.size (.slice A6 n6 c6) _ H4.out.1 H4.out.2.size A3 m3 c3 ms (HH.out.2.2.2.1.below H4.out.2) (by have h1 := HH.out.2.2.2.2.2.2.2.2.2.2.1; have h2 := HH.out.2.2.2.2.2.2.2.2.1; have h3 := HH.out.2.2.2.2.2.2.2.2.2.2.2.2; simp [zs_len]; omega) rfl rfl rfl rfl ?_; intro A7 n7 c7 w5 hn7 hG7; have H5 := Lib.hid (And.intro hG7.own (show Old w w5 from Below.trans H4.out.2 hG7.below)); clear hG7))
            have hn7 := H5.out.1.len
            rw [HH.out.2.2.2.2.2.2.2.1] at hn7
            have HN := Lib.hid hn7
            clear hn7
            refine (pmask_any kind HH.out.2.2.2.2.2.2.1 A2 A7 m2 c2 n7 c7 seed _ w5 (HH.out.2.2.1.below H5.out.2) H5.out.1.rd (by have := HH.out.2.2.2.2.2.2.2.2.1; omega) (by have := HN.out; have := HH.out.2.2.2.2.2.2.2.2.1; omega) (by have := HN.out; omega) (HH.out.2.2.2.2.1.below H5.out.2)).mono ?_
            rintro e w6 ⟨A8, n8, c8, rfl, hR6, hB6⟩
            have hl6 := hR6.len
            rw [xorB_len _ _ (by rw [mask_len kind HH.out.2.2.2.2.2.2.1 seed (by have := HH.out.2.2.2.2.2.2.2.2.2.2.2.1; have := HH.out.2.2.2.2.2.2.2.2.1; omega), HN.out, HH.out.2.2.2.2.2.2.2.1]; exact Nat.le_refl _), HH.out.2.2.2.2.2.2.2.1] at hl6
            obtain ⟨w7, hw7⟩ : ∃ w7, w6.alloc (.cells #[.int .u8 0] 5) = w7 := ⟨_, rfl⟩
            have ho7 : Own w7 w6.heap.size (.slice (some ⟨w6.heap.size, 0, none⟩) 1 1) [0] := by rw [← hw7]; exact own_new w6 [0] _ 1 rfl rfl (by decide)
            have hb7 : Old w6 w7 := by rw [← hw7]; exact (Old.refl w6).alloc _
            have hO6 : Old w w6 := Old.trans H5.out.2 hB6
            have H7 := Lib.hid (And.intro (ho7.mono hO6.size) (And.intro (Old.trans hO6 hb7) (And.intro (hR6.rd.below hb7) (And.intro hl6 (hR6.rd.lt)))))
            clear hR6 hB6 hl6 ho7 hb7 hO6
            go_wp2_with fail
            refine (pmask_any kind HH.out.2.2.2.2.2.2.1 A8 A2 n8 c8 m2 c2 _ seed w7 H7.out.2.2.1 (HH.out.2.2.1.below H7.out.2.1) (by have := H7.out.2.2.2.1; have := HH.out.2.2.2.2.2.2.2.2.1; omega) (by have := HH.out.2.2.2.2.2.2.2.2.1; omega) HH.out.2.2.2.2.2.2.2.2.2.1 (HH.out.2.2.2.2.1.below H7.out.2.1)).mono ?_
            rintro e w8 ⟨A9, n9, c9, rfl, hR8, hB8⟩
            have hl9 := hR8.len
            rw [xorB_len _ _ (by rw [mask_len kind HH.out.2.2.2.2.2.2.1 _ (by rw [← H7.out.2.2.1.1]; have := H7.out.2.2.2.1; have := HH.out.2.2.2.2.2.2.2.2.1; omega)]; exact Nat.le_of_eq HH.out.2.2.2.2.2.2.2.2.2.2.2.1.symm)] at hl9
            have H8 := Lib.hid (And.intro hR8.rd (And.intro (Old.trans H7.out.2.1 hB8) (And.intro (H7.out.1.below hB8) (And.intro (H7.out.2.2.1.below hB8) hl9))))
            clear hR8 hB8 hw7 hl9
            go_wp2_with (first | (at_builtin; refine wp_app2 (.tmp 66) (.tmp 70) w.heap.size _ [0] H8.out.2.2.1 H8.out.2.1.size A9 n9 c9 _ H8.out.1 (by rw [← H8.out.1.1]; have h1 := H8.out.2.2.2.2; have h2 := HH.out.2.2.2.2.2.2.2.2.2.2.2.1; have h3 := HH.out.2.2.2.2.2.2.2.2.1; simp; omega) rfl rfl rfl rfl ?_; intro B1 p1 q1 w9 hp1 hG9; have H9 := Lib.hid (And.intro hG9.own (show Old w w9 from Below.trans H8.out.2.1 hG9.below)); have HM := Lib.hid (H8.out.2.2.2.1.turn (turn_some hG9.grown) (fun ad e hm => by simp at hm; exact Nat.ne_of_lt (H7.out.2.2.2.2 ad e) hm)); clear hG9) | (at_builtin; refine wp_app2 (.tmp 71) (.tmp 72) w.heap.size (.slice B1 p1 q1) _ H9.out.1 H9.out.2.size A8 n8 c8 _ HM.out (by have h1 := H8.out.2.2.2.2; have h2 := HH.out.2.2.2.2.2.2.2.2.2.2.2.1; have h3 := HH.out.2.2.2.2.2.2.2.2.1; have h4 := H7.out.2.2.2.1; rw [List.length_append, List.length_singleton, ← HM.out.1, ← H8.out.1.1]; omega) rfl rfl rfl rfl ?_; intro B2 p2 q2 w10 hp2 hG10; have H10 := Lib.hid hG10; clear hG10))
            refine bodyPost_ret (results_tmp2 rfl _ _ _) rfl ?_
            refine ⟨_, _, _, rfl, ?_, Below.trans H9.out.2 H10.out.below⟩
            have := H10.out.own.rd
            rw [← HH.out.2.2.2.2.2.1, HH.out.2.2.2.2.2.2.2.1]
            rw [HN.out] at this
            simpa only [List.cons_append, List.nil_append] using this
      · rw [if_pos (.inr (.inr d3))]
        have b3 : ((m2 : Int) != h) = true := by simpa using d3
        clear h64 hh hin h1 h2 h3 hl1 hl2 hl3 hK
        go_enter Tryd.func16, Tryd.ntmps16
        go_wp2_with fail
        refine HS.out.mono ?_
        rintro e w' ⟨rfl, rfl⟩
        go_wp2_with fail
        refine bodyPost_ret (results_tmp2 rfl _ _ _) rfl ?_
        exact ⟨none, 0, 0, rfl, Rd.nil _, Old.refl _⟩
end Go.Proofs.YtddemlajfbagdaaDoor
namespace Go.Proofs.YtddemlajfbagdaaDoor
open Go.RowKit

section
variable (t : TypeId)
theorem and_B (x y : UInt8) : binOp .and t (B x) (B y) = pure (B (x &&& y)) := by
  show (pure (.int .u8 (IntKind.u8.wrap (BitVec.toNat (BitVec.ofInt 8 (x.toNat : Int) &&& BitVec.ofInt 8 (y.toNat : Int))))) : Sem Value) = _
  rw [wrap_u8, ← B_eq]
  simp only [BitVec.ofInt_natCast, UInt8.toNat_and, BitVec.toNat_and, BitVec.toNat_ofNat]
  have := x.toNat_lt; have := y.toNat_lt
  rw [Nat.mod_eq_of_lt (by omega), Nat.mod_eq_of_lt (by omega)]
  have : x.toNat &&& y.toNat < 2 ^ 8 := Nat.and_lt_two_pow _ (by omega)
  omega
theorem or_B (x y : UInt8) : binOp .or t (B x) (B y) = pure (B (x ||| y)) := by
  show (pure (.int .u8 (IntKind.u8.wrap (BitVec.toNat (BitVec.ofInt 8 (x.toNat : Int) ||| BitVec.ofInt 8 (y.toNat : Int))))) : Sem Value) = _
  rw [wrap_u8, ← B_eq]
  simp only [BitVec.ofInt_natCast, UInt8.toNat_or, BitVec.toNat_or, BitVec.toNat_ofNat]
  have := x.toNat_lt; have := y.toNat_lt
  rw [Nat.mod_eq_of_lt (by omega), Nat.mod_eq_of_lt (by omega)]
  have : x.toNat ||| y.toNat < 2 ^ 8 := Nat.or_lt_two_pow (by omega) (by omega)
  omega
theorem B_lit (n : Nat) (h : n < 256) : (.int .u8 (n : Int) : Value) = B (UInt8.ofNat n) := by
  rw [B_eq]
  rw [UInt8.toNat_ofNat', Nat.mod_eq_of_lt (by omega)]
theorem andI_B (x : UInt8) (n : Int) (h0 : 0 ≤ n) (h : n < 256) : binOp .and t (B x) (.int .u8 n) = pure (B (x &&& UInt8.ofNat n.toNat)) := by
  obtain ⟨m, rfl⟩ := Int.eq_ofNat_of_zero_le h0
  rw [B_lit m (by omega), and_B]
  rfl
def isN (x : UInt8) (n : Int) : Bool := (x.toNat : Int) == n
def gtN (x : UInt8) (n : Int) : Bool := decide (n < (x.toNat : Int))
theorem eqlI_B (x : UInt8) (n : Int) : binOp .eql t (B x) (.int .u8 n) = pure (.bool (isN x n)) := binOp_eql t .u8 _ _
theorem neqI_B (x : UInt8) (n : Int) : binOp .neq t (B x) (.int .u8 n) = pure (.bool (!isN x n)) := binOp_neq t .u8 _ _
theorem gtrI_B (x : UInt8) (n : Int) : binOp .gtr t (B x) (.int .u8 n) = pure (.bool (gtN x n)) := by
  rw [show B x = .int .u8 (x.toNat : Int) from rfl]
  exact binOp_gtr t .u8 _ _
theorem mulI_B (x : UInt8) (n : Nat) (h : n < 256) : binOp .mul t (B x) (.int .u8 (n : Int)) = pure (B (x * UInt8.ofNat n)) := by
  show (pure (.int .u8 (IntKind.u8.wrap ((x.toNat : Int) * n))) : Sem Value) = _
  rw [wrap_u8, ← B_eq]
  rw [UInt8.toNat_mul, UInt8.toNat_ofNat', Nat.mod_eq_of_lt (a := n) (by omega)]
  simp
theorem mulB_lit (x : UInt8) (n : Int) (h0 : 0 ≤ n) (h : n < 256) : binOp .mul t (B x) (.int .u8 n) = pure (B (x * UInt8.ofNat n.toNat)) := by
  obtain ⟨m, rfl⟩ := Int.eq_ofNat_of_zero_le h0
  exact mulI_B t x m (by omega)
theorem shr_B (x : UInt8) (k : IntKind) (n : Nat) (h : n < 8) : binOp .shr t (B x) (.int k n) = pure (B (x >>> UInt8.ofNat n)) := by
  show Op.shift .shr .u8 (x.toNat : Int) k (n : Int) = _
  unfold Op.shift
  rw [if_neg (by omega)]
  simp only [Int.toNat_natCast, IntKind.bits, Nat.min_eq_left (Nat.le_of_lt h)]
  rw [← B_eq]
  rw [UInt8.toNat_shiftRight, UInt8.toNat_ofNat', Nat.mod_eq_of_lt (a := n) (by omega), Nat.mod_eq_of_lt h, Nat.shiftRight_eq_div_pow]
  rw [Int.fdiv_eq_ediv_of_nonneg _ (by exact_mod_cast Nat.zero_le _)]
  simp
theorem shl_B (x : UInt8) (k : IntKind) (n : Nat) (h : n < 8) : binOp .shl t (B x) (.int k n) = pure (B (x <<< UInt8.ofNat n)) := by
  show Op.shift .shl .u8 (x.toNat : Int) k (n : Int) = _
  unfold Op.shift
  rw [if_neg (by omega)]
  simp only [Int.toNat_natCast, IntKind.bits, Nat.min_eq_left (Nat.le_of_lt h)]
  rw [wrap_u8, ← B_eq]
  rw [UInt8.toNat_shiftLeft, UInt8.toNat_ofNat', Nat.mod_eq_of_lt (a := n) (by omega), Nat.mod_eq_of_lt h, Nat.shiftLeft_eq]
  simp
theorem shrI_B (x : UInt8) (k : IntKind) (n : Int) (h0 : 0 ≤ n) (h : n < 8) : binOp .shr t (B x) (.int k n) = pure (B (x >>> UInt8.ofNat n.toNat)) := by
  obtain ⟨m, rfl⟩ := Int.eq_ofNat_of_zero_le h0
  exact shr_B t x k m (by omega)
theorem shlI_B (x : UInt8) (k : IntKind) (n : Int) (h0 : 0 ≤ n) (h : n < 8) : binOp .shl t (B x) (.int k n) = pure (B (x <<< UInt8.ofNat n.toNat)) := by
  obtain ⟨m, rfl⟩ := Int.eq_ofNat_of_zero_le h0
  exact shl_B t x k m (by omega)
end
theorem all8 {P : UInt8 → Prop} (h : ∀ i : Fin 256, P (UInt8.ofNat i.val)) (a : UInt8) : P a := by
  have := h ⟨a.toNat, a.toNat_lt⟩
  simpa using this
theorem quo2_B (t : TypeId) (x : UInt8) : binOp .quo t (B x) (.int .u8 2) = pure (B (x >>> 1)) := by
  rw [show B x = .int .u8 (x.toNat : Int) from rfl, binOp_quo]
  have h := x.toNat_lt
  have e : ((x >>> 1).toNat : Int) = x.toNat / 2 := by rw [UInt8.toNat_shiftRight]; simp [Nat.shiftRight_eq_div_pow]
  show (pure (.int .u8 (IntKind.u8.wrap (Int.tdiv (x.toNat : Int) 2))) : Sem Value) = _
  rw [wrap_u8, ← B_eq (x := x >>> 1)]
  rw [e, Int.tdiv_eq_ediv_of_nonneg (by omega)]
  omega
theorem rem2_B (t : TypeId) (x : UInt8) : binOp .rem t (B x) (.int .u8 2) = pure (B (x &&& 1)) := by
  rw [show B x = .int .u8 (x.toNat : Int) from rfl, binOp_rem]
  have h := x.toNat_lt
  have e : ((x &&& 1).toNat : Int) = x.toNat % 2 := by simp
  show (pure (.int .u8 (Int.tmod (x.toNat : Int) 2)) : Sem Value) = _
  rw [← B_eq (x := x &&& 1)]
  rw [e, Int.tmod_eq_emod_of_nonneg (by omega)]
theorem mul2_B (t : TypeId) (x : UInt8) : binOp .mul t (B x) (.int .u8 2) = pure (B (x <<< 1)) := by
  rw [mulB_lit t x 2 (by omega) (by omega)]
  have : x * UInt8.ofNat (Int.toNat 2) = x <<< 1 := by
    revert x; refine all8 ?_; decide +kernel
  rw [this]
def geN (x : UInt8) (n : Int) : Bool := decide ((x.toNat : Int) ≥ n)
theorem geqI_B (t : TypeId) (x : UInt8) (n : Int) : binOp .geq t (B x) (.int .u8 n) = pure (.bool (geN x n)) := by
  rw [show B x = .int .u8 (x.toNat : Int) from rfl]
  exact binOp_geq t .u8 _ _
theorem eqGuard_eql_B (t : TypeId) (x y : Operand) (u : UInt8) (n : Int) : eqGuard .eql t x y (B u) (.int .u8 n) = pure () := by
  rw [show B u = .int .u8 (u.toNat : Int) from rfl]; simp [go_sem]
theorem eqGuard_neq_B (t : TypeId) (x y : Operand) (u : UInt8) (n : Int) : eqGuard .neq t x y (B u) (.int .u8 n) = pure () := by
  rw [show B u = .int .u8 (u.toNat : Int) from rfl]; simp [go_sem]
theorem indexAt_B (t : TypeId) (v : Value) (x : UInt8) : Instr.indexAt t v (B x) = Instr.indexAt t v (.int .u8 (x.toNat : Int)) := rfl
attribute [go_sem] indexAt_B quo2_B rem2_B mul2_B geqI_B eqGuard_eql_B eqGuard_neq_B and_B or_B andI_B mulB_lit shrI_B shlI_B eqlI_B neqI_B gtrI_B
end Go.Proofs.YtddemlajfbagdaaDoor
namespace Go.Proofs.YtddemlajfbagdaaDoor
set_option maxRecDepth 100000
open Go.RowKit

theorem trimZ_zero (l : List UInt8) (h : l.getD 0 1 = 0) : trimZ l = trimZ (l.drop 1) := by
  cases l with
  | nil => rfl
  | cons x l =>
    have hx : x = 0 := h
    subst hx
    unfold trimZ
    rw [List.dropWhile_cons_of_pos (by decide)]
    rfl
theorem trimZ_stop (l : List UInt8) (x : UInt8) (h : l[0]? = some x) (hx : x ≠ 0) : trimZ l = l := by
  cases l with
  | nil => rfl
  | cons y l =>
    have hy : y = x := by simpa using h
    subst hy
    unfold trimZ
    rw [List.dropWhile_cons_of_neg (by simpa using hx)]
/-- A part of what is read. -/
def SubRes (w : World) (l : List UInt8) (e : Ending) (w' : World) : Prop := ∃ A n c, e = .returned (.slice A n c) ∧ Rd w A n c l ∧ w = w'
set_option maxHeartbeats 1000000 in
theorem trimB_any (C : Option Addr) (n cb : Nat) (b : List UInt8) (w : World) (hb : Rd w C n cb b) (hn : n ≤ 100000) :
    Calls Tryd.prog 57 #[.slice C n cb, .int .u8 0] w (SubRes w (trimZ b)) := by
  have HH := Lib.hid hb
  clear hb
  go_enter Tryd.func57, Tryd.ntmps57
  go_wp2_with fail
  go_loopw [0] (fun v wr => ∃ (A' : Option Addr) (m' c' : Nat) (l' : List UInt8), v = .slice A' m' c' ∧ Rd w A' m' c' l' ∧ trimZ l' = trimZ b ∧ m' ≤ n ∧ w = wr) (fun v _ => match v with | .slice _ m _ => m | _ => 0)
  case atStart => exact ⟨C, n, cb, b, rfl, HH.out, rfl, Nat.le_refl _, rfl⟩
  case round =>
    obtain ⟨A', m', c', l', rfl, hR, hT, hm', rfl⟩ := hrel
    by_cases h0 : m' = 0
    · have hl0 : l' = [] := List.eq_nil_of_length_eq_zero (hR.1.symm.trans h0)
      have h0i : ¬ (m' : Int) > 0 := by omega
      have h0d : decide ((m' : Int) > 0) = false := decide_eq_false h0i
      have h0b : ((m' : Int) == 0) = true := by rw [h0]; rfl
      have hTb : trimZ b = [] := by rw [← hT, hl0]; rfl
      have HN := Lib.hid hTb
      clear hR hT hl0 hTb h0 hm'
      go_wp2_with fail
      go_ret
      rw [HN.out]
      exact ⟨none, 0, 0, rfl, Rd.nil _, rfl⟩
    · have h0i : (m' : Int) > 0 := by omega
      have h0d : decide ((m' : Int) > 0) = true := decide_eq_true h0i
      have h0b : ((m' : Int) == 0) = false := by simpa using h0
      obtain ⟨x, hx⟩ : ∃ x, l'[0]? = some x := ⟨_, List.getElem?_eq_getElem (by have := hR.1; omega)⟩
      obtain ⟨bb, ob, rfl, hat⟩ := hR.addr (by omega)
      have y0 := hat.2 0 x hx
      rw [Nat.add_zero] at y0
      by_cases hz : x = 0
      · have hxb : isN x 0 = true := by rw [hz]; rfl
        obtain ⟨A5, n5, c5, hn5, hS5, hR5, _⟩ := hR.cut_ex2 (k := 1) (by omega)
        rw [show ((1 : Nat) : Int) = 1 from rfl] at hS5
        have hT5 : trimZ (l'.drop 1) = trimZ b := by rw [← hT, ← trimZ_zero l' (by rw [List.getD_eq_getElem?_getD, hx, hz]; rfl)]
        have HN := Lib.hid (And.intro hR5 (And.intro hT5 (show n5 < m' by omega)))
        clear hR5 hT5 hR hT hx hat hn5 hz
        go_wp2_with fail
        go_roundw
        case rel => exact ⟨A5, n5, c5, _, rfl, HN.out.1, HN.out.2.1, by have := HN.out.2.2; omega, (by first | rfl | trivial)⟩
        case measure => have := HN.out.2.2; simp; omega
      · have hxi : ¬ ((x.toNat : Int) = 0) := fun h => hz (UInt8.toNat_inj.1 (by simpa using h))
        have hxb : isN x 0 = false := by unfold isN; simpa using hxi
        have hTb : trimZ b = l' := by rw [← hT]; exact trimZ_stop l' x hx hz
        have HN := Lib.hid (And.intro hTb hR)
        clear hTb hR hT hat hx hz hxi
        go_wp2_with fail
        go_ret
        rw [HN.out.1]
        exact ⟨_, _, _, rfl, HN.out.2, rfl⟩
set_option maxHeartbeats 1000000 in
theorem trimL_any (C : Option Addr) (n cb : Nat) (b : List UInt8) (w : World) (hb : Rd w C n cb b) (hn : n ≤ 100000) :
    Calls Tryd.prog 40 #[.slice C n cb, .string ⟨#[0]⟩] w (SubRes w (trimZ b)) := by
  by_cases h0 : n = 0
  · have hb0 : ((n : Int) == 0) = true := by rw [h0]; rfl
    have hl0 : b = [] := List.eq_nil_of_length_eq_zero (hb.1.symm.trans h0)
    subst hl0
    clear hb h0
    go_enter Tryd.func40, Tryd.ntmps40
    go_wp2_with fail
    go_ret
    exact ⟨none, 0, 0, rfl, Rd.nil _, rfl⟩
  · have hb0 : ((n : Int) == 0) = false := by simpa using h0
    have hcall := trimB_any C n cb b w hb hn
    have HH := Lib.hid hcall
    clear hb hcall
    go_enter Tryd.func40, Tryd.ntmps40
    go_wp2_with fail
    refine HH.out.mono ?_
    rintro e w1 ⟨A1, n1, c1, rfl, hR, rfl⟩
    have H1 := Lib.hid hR
    clear hR
    go_wp2_with fail
    go_ret
    exact ⟨_, _, _, rfl, H1.out, rfl⟩
end Go.Proofs.YtddemlajfbagdaaDoor
