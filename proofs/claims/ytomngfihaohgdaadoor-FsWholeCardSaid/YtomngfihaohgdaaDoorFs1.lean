/-
  blockfs: head, side, refused, wrote; the readings of a volume.
-/
import Derived.Test.YtomngfihaohgdaaDoorFs0
import Derived.Test.YtomngfihaohgdaaDoorKey
import Derived.Test.YtomngfihaohgdaaDoorAppZ
import Derived.Test.YtomngfihaohgdaaDoorFull
import Derived.Lib.SlBytesConst
namespace Go.Proofs.YtomngfihaohgdaaDoor
set_option maxRecDepth 100000
open Go.RowKit

theorem op_app_full {o : Oper} {a : Act} {w : World} {K : Act → World → Prop} {Q : Exit → Act → World → Prop} (s x : Operand)
    (ho : o.op = .call { callee := .builtin .append, args := #[s, x], argTypes := #[40, 40] })
    (g off : Nat) (l : List UInt8) (hs : a.eval s = .slice (some ⟨g, off, none⟩) l.length l.length) (hat : At w g off l)
    (b2 off2 c2 : Nat) (l2 : List UInt8) (hx : a.eval x = .slice (some ⟨b2, off2, none⟩) l2.length c2) (hat2 : At w b2 off2 l2) (h0 : 0 < l2.length) (hlen : l.length + l2.length ≤ 1000000)
    (h : ∀ c' w', Own w' w.heap.size (.slice (some ⟨w.heap.size, 0, none⟩) (l.length + l2.length) c') (l ++ l2) → Below w.heap.size w w' → K (a.put o.dst (.slice (some ⟨w.heap.size, 0, none⟩) (l.length + l2.length) c')) w') :
    Oper.wp Tryd.prog o a w K Q := by
  obtain ⟨i, hi, hz, hsz, hby⟩ := info_parts Tryd.infoU8
  have hadd : ∀ {b q : Nat} {xs : List UInt8}, At w b q xs → ∀ (j : Nat) (v : Value), (xs.map B)[j]? = some v → w.cell? ((⟨b, q, none⟩ : Addr).add j) = some v := fun hA j v hv => by
    rw [Addr.add_mid]
    rw [List.getElem?_map] at hv
    obtain ⟨y, hy, rfl⟩ := Option.map_eq_some_iff.1 hv
    exact hA.2 j y hy
  have hr := run_append_grow (P := Tryd.prog) w 40 o.type 5 i (.int .u8 0) Tryd.underlying40 hi hz ⟨g, off, none⟩ l.length l.length (l.map B) (by simp [hsz]) (hadd hat) ⟨b2, off2, none⟩ l2.length c2 (l2.map B) (by simp [hsz]) (hadd hat2)
    (by omega) (by omega) (growslice_fits (by omega) (by rw [hby]; omega))
  unfold Oper.wp
  simp only [execOp, ho, resolve, invoke, builtin, Sem.run_bind, Sem.run_pure, Result.andThen_ok, List.map_toArray, List.map_cons, List.map_nil, hs, hx, hr]
  have hge := grownCap_ge w (l.length + l2.length) l.length 5
  have hcm : grownCap w (l.length + l2.length) l.length 5 ≤ maxLen := grownCap_le_maxLen w (l.length + l2.length) l.length 5 (by unfold maxLen; omega)
  have hll : (l ++ l2).length = l.length + l2.length := List.length_append
  refine h _ _ ⟨by simp, .inr ⟨w.heap.size, _, _, by rw [hll], Nat.le_refl _, heap_alloc_new w.drew _, by rw [hll]; exact hge, hcm, ?_, ?_⟩⟩ ⟨rfl, rfl, rfl, by simp, fun j hj => heap_alloc_old w.drew _ hj⟩
  · simp only [Array.size_append, List.size_toArray, size_zeroCells, List.length_map]
    simp [Value.cells]
    omega
  · simp only [Array.toList_append]
    rw [← List.map_append, Nat.mul_one]
    exact List.take_left' (by simp)
theorem append64_full (g off : Nat) (l : List UInt8) (x : UInt64) (w : World) (h : At w g off l) (hl : l.length ≤ 1000) :
    Calls Tryd.prog 44 #[.slice (some ⟨g, off, none⟩) l.length l.length, U64 x] w fun e w' => ∃ A n c, e = .returned (.slice A n c) ∧ Own w' w.heap.size (.slice A n c) (l ++ bytes64 x) ∧ Below w.heap.size w w' := by
  have hat2 : At (w.alloc (.cells #[B (x >>> 56).toUInt8, B (x >>> 48).toUInt8, B (x >>> 40).toUInt8, B (x >>> 32).toUInt8, B (x >>> 24).toUInt8, B (x >>> 16).toUInt8, B (x >>> 8).toUInt8, B x.toUInt8] 5)) w.heap.size 0 (bytes64 x) :=
    (Own.of_cells (base := 0) (l := bytes64 x) (cur := (bytes64 x).map B) (heap_alloc_new w _) (Nat.zero_le _) rfl (by simp [bytes64, maxLen]) (by simp [bytes64]) rfl).at_
  have hat := h.keep (w' := w.alloc (.cells #[B (x >>> 56).toUInt8, B (x >>> 48).toUInt8, B (x >>> 40).toUInt8, B (x >>> 32).toUInt8, B (x >>> 24).toUInt8, B (x >>> 16).toUInt8, B (x >>> 8).toUInt8, B x.toUInt8] 5)) (by simp) (Below.heap_alloc w _ g h.1)
  have HA := Lib.hid (And.intro hat hat2)
  clear hat hat2 h
  go_enter Tryd.func44, Tryd.ntmps44
  go_wp2_with (at_builtin; refine wpList_plain rfl (fun _ hK => op_app_full _ _ rfl g off l rfl HA.out.1 w.heap.size 0 8 (bytes64 x) rfl HA.out.2 (by simp [bytes64]) (by simp [bytes64]; omega) (fun c' w' ho hb => hK _ _ ?_)); have H2 := Lib.hid (And.intro ho hb); clear ho hb)
  go_wp2_with fail
  go_ret
  obtain ⟨ho, hb⟩ := H2.out
  have es : ∀ o, (w.alloc o).heap.size = w.heap.size + 1 := fun o => by simp
  rw [es] at ho hb
  exact ⟨_, _, _, rfl, ho.mono (Nat.le_succ _), ((Below.refl _ w).alloc (Nat.le_refl _) _).trans (hb.mono (Nat.le_succ _))⟩
def magicB : List UInt8 := [98, 97, 105, 108, 101, 121, 39, 115, 32, 118, 111, 108, 117, 109, 101, 10]
theorem at_marked (w : World) (l : List UInt8) (fr : Nat × Nat) : At (w.alloc (.cells (l.map B).toArray 5 fr)) w.heap.size 0 l := by
  refine ⟨by simp, fun k x hk => ?_⟩
  rw [World.cell?_alloc_mark]
  simp [hk]
/-- What is hashed of a head. -/
def headA (c : Nat) : List UInt8 := magicB ++ bytes64 (UInt64.ofNat c)
def headH (c : Nat) : List UInt8 := (writes 3 [headA c]).sum 3
/-- A head. -/
def headB (c : Nat) : List UInt8 := headA c ++ headH c ++ zs 200
theorem headA_len (c : Nat) : (headA c).length = 24 := rfl
theorem headH_len (c : Nat) : (headH c).length = 32 := by
  unfold headH HSt.sum
  rw [sumOf_len 3 _ _ _ (by decide) (writes_len 3 _)]; rfl
theorem headB_len (c : Nat) : (headB c).length = 256 := by
  unfold headB
  rw [List.length_append, List.length_append, headA_len, headH_len]; rfl
set_option maxRecDepth 100000 in
set_option maxHeartbeats 1000000 in
theorem head_any (c : Nat) (hc : c < 1000000) (w : World) (hK : KAt w) :
    Calls Tryd.prog 33 #[.int .i64 (c : Int)] w fun e w' => ∃ A n k, e = .returned (.slice A n k) ∧ Own w' w.heap.size (.slice A n k) (headB c) ∧ Below w.heap.size w w' := by
  obtain ⟨w1, hw1⟩ : ∃ w1, w.alloc (.cells (magicB.map B).toArray 5 (16, 17)) = w1 := ⟨_, rfl⟩
  have hb1 : Below w.heap.size w w1 := by rw [← hw1]; exact (Below.refl _ _).alloc (Nat.le_refl _) _
  have hO1 : At w1 w.heap.size 0 magicB := by rw [← hw1]; exact at_marked w magicB (16, 17)
  have kc := fun (w : World) (C : Array Value) (n c : Nat) => Lib.run_convert_bytes_const (P := Tryd.prog) w 40 5 C n c Tryd.underlying40 Tryd.underlying5
  have hcv : IntKind.u64.wrap (c : Int) = (c : Int) := IntWalk.u64_in _ (by omega)
  have hap := append64_full w.heap.size 0 magicB (UInt64.ofNat c) w1 hO1 (by decide)
  rw [show magicB.length = 16 from rfl] at hap
  have hU : U64 (UInt64.ofNat c) = .int .u64 (c : Int) := by unfold U64; rw [UInt64.toNat_ofNat', Nat.mod_eq_of_lt (by omega)]
  rw [hU] at hap
  have hmB : (magicB.map B).toArray = #[.int .u8 98, .int .u8 97, .int .u8 105, .int .u8 108, .int .u8 101, .int .u8 121, .int .u8 39, .int .u8 115, .int .u8 32, .int .u8 118, .int .u8 111, .int .u8 108, .int .u8 117, .int .u8 109, .int .u8 101, .int .u8 10] := rfl
  rw [hmB] at hw1
  have H1 := Lib.hid (And.intro hb1 hK)
  clear hb1 hO1 hmB hU hK
  go_enter Tryd.func33, Tryd.ntmps33
  go_wp2_with fail
  try rw [hw1]
  refine hap.mono ?_
  rintro e w2 ⟨A2, n2, c2, rfl, hO2, hb2⟩
  have hb2' : Below w.heap.size w w2 := H1.out.1.trans (hb2.mono H1.out.1.size)
  obtain rfl : n2 = 24 := hO2.len
  have H2 := Lib.hid (And.intro (show Own w2 w.heap.size (.slice A2 24 c2) (headA c) from hO2.mono H1.out.1.size) (And.intro hb2' (H1.out.2.below hb2')))
  clear hap hO2 hb2 hb2' hw1 kc
  go_wp2_with fail
  obtain ⟨w3, hw3⟩ : ∃ w3, w2.alloc (.cells #[.slice A2 24 c2] 40) = w3 := ⟨_, rfl⟩
  have hb3 : Below w2.heap.size w2 w3 := by rw [← hw3]; exact (Below.refl _ _).alloc (Nat.le_refl _) _
  have hbk : Blk w3 w2.heap.size 40 #[.slice A2 24 c2] := by rw [← hw3]; exact Blk.new _ _ _
  try rw [hw3]
  have hP : PartsAt w3 (some ⟨w2.heap.size, 0, none⟩) 1 1 [headA c] := by
    refine ⟨rfl, Nat.le_refl _, by decide, fun _ => ⟨w2.heap.size, 0, rfl, hbk.lt, fun i l hl => ?_⟩⟩
    have hi : i = 0 := by
      have := (List.getElem?_eq_some_iff.1 hl).1
      simp at this; omega
    subst hi
    injection hl with hl
    subst hl
    exact ⟨A2, 24, c2, by rw [hbk.cell]; rfl, (H2.out.1.below hb3).rd⟩
  refine (of_any 3 (by decide) _ 1 1 [headA c] w3 hP (by simp [headA_len]) (H2.out.2.2.below hb3)).mono ?_
  rintro e w4 ⟨g4, c4, rfl, hO4, hb4⟩
  have hl4 : ((writes 3 [headA c]).sum 3).length = 32 := headH_len c
  rw [hl4] at hO4 ⊢
  have h24 : Below w2.heap.size w2 w4 := hb3.trans (hb4.mono hb3.size)
  have H4 := Lib.hid (And.intro (H2.out.1.below h24) (And.intro hO4.rd (H2.out.2.1.trans (h24.mono H2.out.2.1.size))))
  clear hP hb3 hbk hw3 hO4 hb4 hl4 h24
  go_wp2_with (at_builtin; first | (go_loud (refine wp_app2 (.tmp 9) (.tmp 12) w.heap.size (.slice A2 24 c2) (headA c) H4.out.1 H4.out.2.2.size (some ⟨g4, 0, none⟩) 32 c4 (headH c) H4.out.2.1 (by rw [headA_len, headH_len]; decide) rfl rfl rfl rfl ?_; intro A5 n5 c5 w5 hi5 hG; have hn5 : n5 = 56 := (by have h9 := hG.own.len; rw [List.length_append, headA_len, headH_len] at h9; exact h9); have H5 := Lib.hid hG; subst hn5; clear hG)) | (go_loud (refine wp_appZ (.tmp 14) (.tmp 17) w.heap.size (.slice A5 56 c5) (headA c ++ headH c) H5.out.own (Nat.le_trans H4.out.2.2.size (by have := H5.out.grown.size; exact this)) 200 (by decide) (by rw [List.length_append, headA_len, headH_len]; decide) rfl rfl rfl rfl ?_; intro A6 n6 c6 w6 hi6 hG; have H6 := Lib.hid hG; clear hG)))
  go_ret
  exact ⟨_, _, _, rfl, H6.out.own, H4.out.2.2.trans (H5.out.below.trans H6.out.below)⟩
end Go.Proofs.YtomngfihaohgdaaDoor
