/-
  The state of AES: sixteen bytes in a block; add.
-/
import Derived.Test.YtgjnmpjimhbfgaaGreatDoorZzEqB
import Derived.StillTailTactics
namespace Go.Proofs.YtgjnmpjimhbfgaaGreatDoor
set_option maxRecDepth 100000
open Go.RowKit
def St (W : World) (b : Nat) (l : List UInt8) : Prop := l.length = 16 ∧ Blk W b 153 (l.map B).toArray
theorem St.cell {W : World} {b : Nat} {l : List UInt8} (h : St W b l) (i : Nat) (x : UInt8) (hx : l[i]? = some x) : W.cell? ⟨b, i, none⟩ = some (B x) := by
 rw [h.2.cell, List.getElem?_toArray, List.getElem?_map, hx]; rfl
theorem St.frozen {W : World} {b : Nat} {l : List UInt8} (h : St W b l) (i : Nat) : W.frozen? ⟨b, i, none⟩ = false := h.2.frozen i
theorem St.set_ {W : World} {b : Nat} {l : List UInt8} (h : St W b l) (i : Nat) (x : UInt8) : St (W.setCell ⟨b, i, none⟩ (B x)) b (l.set i x) := by
 refine ⟨by rw [List.length_set]; exact h.1, ?_⟩
 have := h.2.set_ i (B x)
 rwa [List.setIfInBounds_toArray, ← List.map_set] at this
theorem St.drew {W : World} {b : Nat} {l : List UInt8} (h : St W b l) : St W.drew b l := h
theorem St.alloc_ {W : World} {b : Nat} {l : List UInt8} (h : St W b l) (o : Obj) : St (W.alloc o) b l := ⟨h.1, h.2.alloc o⟩
theorem St.turn {w w' : World} {S : List Nat} {b : Nat} {l : List UInt8} (h : St w b l) (ht : Turn S w w') (hn : b ∉ S) : St w' b l := ⟨h.1, h.2.turn ht hn⟩
theorem St.lt {W : World} {b : Nat} {l : List UInt8} (h : St W b l) : b < W.heap.size := h.2.lt
def mid (k : Nat) (o l : List UInt8) : List UInt8 := o.take k ++ l.drop k
theorem mid_zero (o l : List UInt8) : mid 0 o l = l := by simp [mid]
theorem mid_all (o l : List UInt8) (n : Nat) (ho : o.length = n) (hl : l.length = n) : mid n o l = o := by
 unfold mid
 rw [List.take_of_length_le (by omega), List.drop_eq_nil_of_le (by omega), List.append_nil]
theorem mid_at (k : Nat) (o l : List UInt8) (h : k ≤ o.length) (j : Nat) (hj : k ≤ j) : (mid k o l)[j]? = l[j]? := by
 unfold mid
 rw [List.getElem?_append_right (by rw [List.length_take]; omega), List.getElem?_drop, List.length_take, Nat.min_eq_left h]
 congr 1; omega
theorem mid_set (k : Nat) (o l : List UInt8) (x : UInt8) (hx : o[k]? = some x) (hl : k < l.length) : (mid k o l).set k x = mid (k + 1) o l := by
 have hk := (List.getElem?_eq_some_iff.1 hx).1
 unfold mid
 rw [List.set_append_right _ _ (by rw [List.length_take]; omega), List.length_take, Nat.min_eq_left (by omega), Nat.sub_self, List.take_add_one, hx]
 rw [List.drop_eq_getElem_cons hl, List.set_cons_zero, List.append_assoc]
 rfl
def xorL (l k : List UInt8) : List UInt8 := List.zipWith (· ^^^ ·) l k
theorem xorL_len (l k : List UInt8) (n : Nat) (h1 : l.length = n) (h2 : k.length = n) : (xorL l k).length = n := by unfold xorL; rw [List.length_zipWith, h1, h2, Nat.min_self]
theorem xorL_at (l k : List UInt8) (j : Nat) (x y : UInt8) (hx : l[j]? = some x) (hy : k[j]? = some y) : (xorL l k)[j]? = some (x ^^^ y) := by
 unfold xorL; rw [List.getElem?_zipWith, hx, hy]
theorem at16 (l : List UInt8) (h : l.length = 16) (j : Nat) (hj : j < 16) : ∃ x, l[j]? = some x := ⟨_, List.getElem?_eq_getElem (by omega)⟩
theorem add_any (sb : Nat) (l : List UInt8) (A : Option Addr) (c : Nat) (k : List UInt8) (w : World) (h : St w sb l) (hk : Rd w A 16 c k) (hne : ∀ ad, A = some ad → ad.block ≠ sb) :
  Calls Tryz.prog 143 #[.pointer (some ⟨sb, 0, none⟩), .slice A 16 c] w fun e w' => e = .returned (.tuple #[]) ∧ St w' sb (xorL l k) ∧ Turn [sb] w w' := by
 have hkl : k.length = 16 := hk.1.symm
 obtain ⟨b, off, rfl, ha⟩ := hk.addr (by omega)
 have hbs : b ≠ sb := hne _ rfl
 have HK := Lib.hid (And.intro ha hkl)
 have HH := Lib.hid h
 clear hk hne ha h hkl
 go_enter Tryz.func143, Tryz.ntmps143
 go_wp2_with fail
 go_loopw [5] (fun iv wr => ∃ i : Nat, i ≤ 16 ∧ iv = .int .i64 (i : Int) ∧ St wr sb (mid i (xorL l k) l) ∧ Turn [sb] w wr) (fun iv _ => 16 - (intOf iv).toNat)
 case atStart => exact ⟨0, by omega, rfl, by rw [mid_zero]; exact HH.out, Turn.refl _ _⟩
 case round =>
  obtain ⟨i, hi, rfl, hS, hT⟩ := hrel
  by_cases hlt : i < 16
  ·have hq : (i : Int) < 16 := by omega
   obtain ⟨x, hx⟩ := at16 l HH.out.1 i hlt
   obtain ⟨y, hy⟩ := at16 k HK.out.2 i hlt
   have hxy := xorL_at l k i x y hx hy
   have y0 := hS.cell i x (by rw [mid_at _ _ _ (by rw [xorL_len _ _ 16 HH.out.1 HK.out.2]; omega) _ (Nat.le_refl _)]; exact hx)
   have y1 := hS.frozen i
   have y2 : wr.cell? ⟨b, off + i, none⟩ = some (B y) := by
    have hB : wr.cell? ⟨b, off + i, none⟩ = w.cell? ⟨b, off + i, none⟩ := World.cell?_of_block (a := ⟨b, off + i, none⟩) (hT.block b HK.out.1.1 (by simp; exact hbs))
    rw [hB]; exact HK.out.1.2 i y hy
   have HS := Lib.hid (And.intro hS (And.intro hT hxy))
   clear hS hT hxy hx hy
   go_wp2_with fail
   go_still_tail 12, (by kernel_rfl)
   go_wp2_with fail
   have h1 := HS.out.1.set_ i (x ^^^ y)
   rw [mid_set _ _ _ _ HS.out.2.2 (by rw [HH.out.1]; exact hlt)] at h1
   refine ⟨⟨i + 1, by omega, by go_num, h1.drew, (HS.out.2.1.setCell (p := ⟨sb, i, none⟩) (.inl (by simp)) _).drew⟩, by simp [intOf]; omega⟩
  ·obtain rfl : i = 16 := by omega
   have hq : ¬ ((16 : Int) < 16) := by omega
   rw [mid_all _ _ 16 (xorL_len _ _ 16 HH.out.1 HK.out.2) HH.out.1] at hS
   have HS := Lib.hid (And.intro hS hT)
   clear hS hT hi hlt
   go_wp2_with fail
   go_end0
   exact ⟨rfl, HS.out.1, HS.out.2⟩
theorem op_copySt {o : Oper} {a : Act} {w : World} {K : Act → World → Prop} {Q : Exit → Act → World → Prop} (d s : Operand)
  (ho : o.op = .call { callee := .builtin .copy, args := #[d, s], argTypes := #[32, 32] })
  (g off dl dc : Nat) (l : List UInt8) (hst : St w g l) (hd : a.eval d = .slice (some ⟨g, off, none⟩) dl dc) (hoff : off + dl ≤ 16)
  (A : Option Addr) (m c : Nat) (l2 : List UInt8) (hs : a.eval s = .slice A m c) (hrd : Rd w A m c l2) (hm : 0 < m) (_hdl : 0 < dl)
  (h : ∀ w', St w' g (splice l off (l2.take dl)) → Turn [g] w w' → K (a.put o.dst (goInt ((min m dl : Nat) : Int))) w') :
  Oper.wp Tryz.prog o a w K Q := by
 obtain ⟨i0, hi, hz0, hz1, hz2⟩ := info_parts Tryz.infoU8
 have hsz : (Tryz.prog.info? 5).map (·.size) = some 1 := by rw [hi]; simp [hz1]
 obtain ⟨hl16, hh⟩ := hst
 have hrd' := hrd
 obtain ⟨h1, h2, h3, _⟩ := hrd
 obtain ⟨b, so, rfl, h4⟩ := hrd'.addr hm
 have hlen : (l2.take dl).length = Nat.min m dl := by rw [List.length_take, ← h1]; exact Nat.min_comm _ _
 have hrun := run_copy_row (P := Tryz.prog) w 32 32 o.type 5 g off dl dc ⟨b, so, none⟩ m c (l.map B).toArray 153 ((l2.take dl).map B) Tryz.underlying32 hsz hh (by simpa using hlen)
  (fun j v hv => (h4.take dl).adds j v hv) (by rw [List.length_map, hlen]; have : Nat.min m dl ≤ dl := Nat.min_le_right _ _; simp; omega) (map_one _)
 unfold Oper.wp
 simp only [execOp, ho, resolve, invoke, builtin, Sem.run_bind, Sem.run_pure, Result.andThen_ok, List.map_toArray, List.map_cons, List.map_nil, hs, hd, hrun]
 have hgo : goInt (((l2.take dl).map B).length : Nat) = goInt ((min m dl : Nat) : Int) := by rw [List.length_map, hlen]
 rw [hgo]
 have hk : (l2.take dl).length ≤ dl := by rw [hlen]; exact Nat.min_le_right _ _
 refine h _ ⟨?_, ?_⟩ ?_
 ·rw [length_splice _ _ _ (by omega)]; exact hl16
 ·have := setRow_heap w g (l.map B).toArray ((l.map B).toArray.toList.take off ++ (l2.take dl).map B ++ (l.map B).toArray.toList.drop (off + ((l2.take dl).map B).length)).toArray _ _ hh
  unfold Blk
  rw [this]
  congr 2
  unfold splice
  simp [List.map_take, List.map_drop]
 ·exact ⟨rfl, rfl, rfl, by simp [World.setRow], fun k hk' hne => setRow_other w g k _ (fun e => hne (by simp [e]))⟩
theorem wp_copySt {ops : Array Oper} {rest : List Oper} {o : Oper} {a : Act} {w : World} {Q : Exit → Act → World → Prop} (hgd : o.guard = none) (d s : Operand)
  (ho : o.op = .call { callee := .builtin .copy, args := #[d, s], argTypes := #[32, 32] })
  (g off dl dc : Nat) (l : List UInt8) (hst : St w g l) (hd : a.eval d = .slice (some ⟨g, off, none⟩) dl dc) (hoff : off + dl ≤ 16)
  (A : Option Addr) (m c : Nat) (l2 : List UInt8) (hs : a.eval s = .slice A m c) (hrd : Rd w A m c l2) (hm : 0 < m) (hdl : 0 < dl)
  (h : ∀ w', St w' g (splice l off (l2.take dl)) → Turn [g] w w' → wpList Tryz.prog ops Q rest (a.put o.dst (goInt ((min m dl : Nat) : Int))) w') :
  wpList Tryz.prog ops Q (o :: rest) a w :=
 wpList_plain hgd fun _ hK => op_copySt d s ho g off dl dc l hst hd hoff A m c l2 hs hrd hm hdl fun w' h1 h2 => hK _ _ (h w' h1 h2)
def St4 (W : World) (b : Nat) (l : List UInt8) : Prop := l.length = 4 ∧ Blk W b 152 (l.map B).toArray
theorem St4.cell {W : World} {b : Nat} {l : List UInt8} (h : St4 W b l) (i : Nat) (x : UInt8) (hx : l[i]? = some x) : W.cell? ⟨b, i, none⟩ = some (B x) := by
 rw [h.2.cell, List.getElem?_toArray, List.getElem?_map, hx]; rfl
theorem St4.frozen {W : World} {b : Nat} {l : List UInt8} (h : St4 W b l) (i : Nat) : W.frozen? ⟨b, i, none⟩ = false := h.2.frozen i
theorem St4.set_ {W : World} {b : Nat} {l : List UInt8} (h : St4 W b l) (i : Nat) (x : UInt8) : St4 (W.setCell ⟨b, i, none⟩ (B x)) b (l.set i x) := by
 refine ⟨by rw [List.length_set]; exact h.1, ?_⟩
 have := h.2.set_ i (B x)
 rwa [List.setIfInBounds_toArray, ← List.map_set] at this
theorem St4.drew {W : World} {b : Nat} {l : List UInt8} (h : St4 W b l) : St4 W.drew b l := h
theorem St4.turn {w w' : World} {S : List Nat} {b : Nat} {l : List UInt8} (h : St4 w b l) (ht : Turn S w w') (hn : b ∉ S) : St4 w' b l := ⟨h.1, h.2.turn ht hn⟩
theorem St4.alloc_ {W : World} {b : Nat} {l : List UInt8} (h : St4 W b l) (o : Obj) : St4 (W.alloc o) b l := ⟨h.1, h.2.alloc o⟩
theorem St4.rd {W : World} {b : Nat} {l : List UInt8} (h : St4 W b l) : Rd W (some ⟨b, 0, none⟩) 4 4 l :=
 ⟨h.1.symm, Nat.le_refl _, by unfold maxLen; omega, .inr ⟨b, 0, rfl, h.2.lt, fun k x hx => by rw [Nat.zero_add]; exact h.cell k x hx⟩⟩
theorem St.rd {W : World} {b : Nat} {l : List UInt8} (h : St W b l) : Rd W (some ⟨b, 0, none⟩) 16 16 l :=
 ⟨h.1.symm, Nat.le_refl _, by unfold maxLen; omega, .inr ⟨b, 0, rfl, h.2.lt, fun k x hx => by rw [Nat.zero_add]; exact h.cell k x hx⟩⟩
theorem at4 (l : List UInt8) (h : l.length = 4) (j : Nat) (hj : j < 4) : ∃ x, l[j]? = some x := ⟨_, List.getElem?_eq_getElem (by omega)⟩
def mixB (l fs : List UInt8) (col i : Nat) : Nat → UInt8
 | 0 => 0
 | j + 1 => mixB l fs col i j ^^^ gm (l.getD (col + j) 0) (fs.getD ((j + 4 - i) % 4) 0)
def mixC (l fs : List UInt8) (col : Nat) : List UInt8 := [mixB l fs col 0 4, mixB l fs col 1 4, mixB l fs col 2 4, mixB l fs col 3 4]
theorem mixC_at (l fs : List UInt8) (col i : Nat) (h : i < 4) : (mixC l fs col)[i]? = some (mixB l fs col i 4) := by
 rcases i with _ | _ | _ | _ | i
 ·rfl
 ·rfl
 ·rfl
 ·rfl
 ·omega
def mixN (l fs : List UInt8) : Nat → List UInt8
 | 0 => l
 | k + 1 => splice (mixN l fs k) (4 * k) (mixC (mixN l fs k) fs (4 * k))
theorem mixN_len (l fs : List UInt8) (h : l.length = 16) (k : Nat) (hk : k ≤ 4) : (mixN l fs k).length = 16 := by
 induction k with
 | zero => exact h
 | succ k ih =>
  unfold mixN
  rw [length_splice _ _ _ (by rw [ih (by omega)]; show 4 * k + 4 ≤ 16; omega)]
  exact ih (by omega)
theorem times_still (b f : UInt8) (w : World) : Calls Tryz.prog 161 #[B b, B f] w fun e w' => e = .returned (B (gm b f)) ∧ w' = w := (times_any b f w).mono fun _ _ h => ⟨h.1, h.2.symm⟩
set_option maxHeartbeats 2000000 in
theorem mix_any (sb : Nat) (l : List UInt8) (f0 f1 f2 f3 : UInt8) (w : World) (h : St w sb l) :
  Calls Tryz.prog 142 #[.pointer (some ⟨sb, 0, none⟩), .agg #[B f0, B f1, B f2, B f3]] w fun e w' => e = .returned (.tuple #[]) ∧ St w' sb (mixN l [f0, f1, f2, f3] 4) ∧ Turn [sb] w w' := by
 have hF : St4 (w.alloc (.cells #[B f0, B f1, B f2, B f3] 152)) w.heap.size [f0, f1, f2, f3] := ⟨rfl, Blk.new _ _ _⟩
 obtain ⟨fs, hfs⟩ : ∃ fs, fs = [f0, f1, f2, f3] := ⟨_, rfl⟩
 rw [← hfs] at hF ⊢
 have hT0 : Turn [sb] w (w.alloc (.cells #[B f0, B f1, B f2, B f3] 152)) := (Turn.refl _ _).alloc _
 have hS0 := h.alloc_ (.cells #[B f0, B f1, B f2, B f3] 152)
 have hl := h.1
 have hlt0 := h.lt
 have HH := Lib.hid (And.intro hS0 (And.intro hF (And.intro hT0 hl)))
 clear hS0 hF hT0 hl h hfs
 go_enter Tryz.func142, Tryz.ntmps142
 go_wp2_with fail
 go_loopw [4] (fun iv wr => ∃ k : Nat, k ≤ 4 ∧ iv = .int .i64 (4 * (k : Int)) ∧ St wr sb (mixN l fs k) ∧ St4 wr w.heap.size fs ∧ Turn [sb] w wr) (fun iv _ => 16 - (intOf iv).toNat)
 case atStart => exact ⟨0, by omega, by go_num, HH.out.1, HH.out.2.1, HH.out.2.2.1⟩
 case round =>
  obtain ⟨k, hk, rfl, hS, hF, hT⟩ := hrel
  by_cases hlt : k < 4
  ·have hq : (4 : Int) * k < 16 := by omega
   have hml := hS.1
   have hzt : St4 (wr.alloc (.cells #[.int .u8 0, .int .u8 0, .int .u8 0, .int .u8 0] 152)) wr.heap.size [0, 0, 0, 0] := ⟨rfl, Blk.new _ _ _⟩
   have hSa := hS.alloc_ (.cells #[.int .u8 0, .int .u8 0, .int .u8 0, .int .u8 0] 152)
   have hFa := hF.alloc_ (.cells #[.int .u8 0, .int .u8 0, .int .u8 0, .int .u8 0] 152)
   have hTa : Turn [sb] w (wr.alloc (.cells #[.int .u8 0, .int .u8 0, .int .u8 0, .int .u8 0] 152)) := hT.alloc _
   have n1 : sb ≠ wr.heap.size := by have := hS.lt; omega
   have n2 : w.heap.size ≠ wr.heap.size := by have := hF.2.lt; omega
   have hwl' : w.heap.size ≤ wr.heap.size := hT.size
   have HK := Lib.hid (And.intro hzt (And.intro hSa (And.intro hFa (And.intro hTa hml))))
   clear hS hF hT hzt hSa hFa hTa HH hml
   go_wp2_with fail
   generalize wr.alloc (.cells #[.int .u8 0, .int .u8 0, .int .u8 0, .int .u8 0] 152) = wc at *
   generalize wr.heap.size = tb at *
   generalize hM : mixN l fs k = M at *
   go_loopw [12] (fun iv wz => ∃ i : Nat, i ≤ 4 ∧ iv = .int .i64 (i : Int) ∧ St4 wz tb (mid i (mixC M fs (4 * k)) [0, 0, 0, 0]) ∧ Turn [tb] wc wz) (fun iv _ => 4 - (intOf iv).toNat)
   case atStart => exact ⟨0, by omega, rfl, by rw [mid_zero]; exact HK.out.1, Turn.refl _ _⟩
   case round =>
    obtain ⟨i, hi, rfl, hA, hT⟩ := hrel
    by_cases hilt : i < 4
    ·have hiq : (i : Int) < 4 := by omega
     have HA := Lib.hid (And.intro hA hT)
     clear hA hT
     go_wp2_with fail
     go_loopw [15] (fun jv wy => ∃ j : Nat, j ≤ 4 ∧ jv = .int .i64 (j : Int) ∧ St4 wy tb ((mid i (mixC M fs (4 * k)) [0, 0, 0, 0]).set i (mixB M fs (4 * k) i j)) ∧ Turn [tb] wc wy) (fun jv _ => 4 - (intOf jv).toNat)
     case atStart =>
      refine ⟨0, by omega, rfl, ?_, HA.out.2⟩
      have h0 : (mid i (mixC M fs (4 * k)) [0, 0, 0, 0]).set i (mixB M fs (4 * k) i 0) = mid i (mixC M fs (4 * k)) [0, 0, 0, 0] := by
       refine List.ext_getElem? fun q => ?_
       rw [List.getElem?_set]
       by_cases e : i = q
       ·subst e
        rw [if_pos rfl, if_pos (by rw [HA.out.1.1]; exact hilt), mid_at _ _ _ (by show i ≤ 4; omega) _ (Nat.le_refl _)]
        have : ∀ q, q < 4 → ([0, 0, 0, 0] : List UInt8)[q]? = some 0 := by decide
        rw [this i hilt]; rfl
       ·rw [if_neg e]
      rw [h0]; exact HA.out.1
     case round =>
      obtain ⟨j, hj, rfl, hB, hT⟩ := hrel
      have hBl := hB.1
      by_cases hjlt : j < 4
      ·have hjq : (j : Int) < 4 := by omega
       obtain ⟨x, hx⟩ := at16 M HK.out.2.2.2.2 (4 * k + j) (by omega)
       obtain ⟨p, hp⟩ : ∃ p, p = (j + 4 - i) % 4 := ⟨_, rfl⟩
       have hp4 : p < 4 := by omega
       obtain ⟨f, hf⟩ := at4 fs HK.out.2.2.1.1 p hp4
       have hF := HK.out.2.2.1.turn hT (by simp; exact n2)
       have hS := HK.out.2.1.turn hT (by simp; exact n1)
       have y0 := hB.cell i (mixB M fs (4 * k) i j) (by rw [List.getElem?_set, if_pos rfl, if_pos (by simpa using (by have := HA.out.1.1; omega))])
       have y1 := hB.frozen i
       have y2 := hS.cell _ x hx
       have y3 := hF.cell p f hf
       have g0 : IntKind.i64.wrap ((j : Int) - i) = (j : Int) - i := IntWalk.i64_in _ (by omega)
       have g1 : IntKind.i64.wrap ((j : Int) - i + 4) = (j : Int) - i + 4 := IntWalk.i64_in _ (by omega)
       have g2 : ((j : Int) - i + 4) % 4 = (p : Int) := by omega
       have g2' : ((j : Int) - i + 4).tmod 4 = (p : Int) := by rw [Int.tmod_eq_emod_of_nonneg (by omega)]; omega
       have g3 : (p : Int) < 4 := by omega
       have g4 : (0 : Int) ≤ (j : Int) - i + 4 := by omega
       have g5 : (4 : Int) * k + j < 16 := by omega
       have g6 : IntKind.i64.wrap ((4 : Int) * k + j) = (4 : Int) * k + j := IntWalk.i64_in _ (by omega)
       have g7 : ((4 : Int) * k + j).toNat = 4 * k + j := by omega
       have hnew : mixB M fs (4 * k) i (j + 1) = mixB M fs (4 * k) i j ^^^ gm x f := by
        show mixB M fs (4 * k) i j ^^^ gm (M.getD (4 * k + j) 0) (fs.getD ((j + 4 - i) % 4) 0) = _
        rw [← hp, List.getD_eq_getElem?_getD, hx, List.getD_eq_getElem?_getD, hf]; rfl
       have HB := Lib.hid (And.intro hB (And.intro hT hnew))
       generalize mixB M fs (4 * k) i j = X at *
       clear hB hT hnew hF hS hx hf hp hBl
       go_wp2_with fail
       have g8 : (0 : Int) ≤ 4 * k + j := by omega
       go_still_tail 20, (by kernel_rfl)
       still_call (times_still x f _)
       repeat still_step
       try refine wpStill_nil ?_
       go_wp2_with fail
       have h1 := HB.out.1.set_ i (X ^^^ gm x f)
       rw [List.set_set] at h1
       go_roundw
       case rel => exact ⟨j + 1, by omega, by go_num, by rw [HB.out.2.2]; exact h1.drew, (HB.out.2.1.setCell (p := ⟨tb, i, none⟩) (.inl (by simp)) _).drew⟩
       case measure => simp [intOf]; omega
      ·obtain rfl : j = 4 := by omega
       have hjq : ¬ ((4 : Int) < 4) := by omega
       rw [mid_set _ _ _ _ (mixC_at _ _ _ _ hilt) (by show i < 4; exact hilt)] at hB
       have HB := Lib.hid (And.intro hB hT)
       clear hB hT hBl hj hjlt
       go_wp2_with fail
       exact ⟨⟨i + 1, by omega, by go_num, HB.out.1, HB.out.2⟩, by simp [intOf]; omega⟩
    ·obtain rfl : i = 4 := by omega
     have hiq : ¬ ((4 : Int) < 4) := by omega
     rw [mid_all _ _ 4 rfl rfl] at hA
     have HA := Lib.hid (And.intro hA hT)
     clear hA hT hi hilt
     go_wp2_with fail
     have g1 : (4 : Int) * k ≤ 16 := by omega
     have g2 : (0 : Int) ≤ 4 * (k : Int) := by omega
     have g3 : ((4 : Int) * k).toNat = 4 * k := by omega
     have g4 : ¬ (16 = 4 * k) := by omega
     have hS := HK.out.2.1.turn HA.out.2 (by simp; exact n1)
     have hF := HK.out.2.2.1.turn HA.out.2 (by simp; exact n2)
     have hT2 : Turn [sb] w wr := HK.out.2.2.2.1.trans HA.out.2 (fun x hx => .inr (by simp at hx; subst hx; exact hwl'))
     have HS := Lib.hid (And.intro hS (And.intro hF hT2))
     clear hS hF hT2
     go_still_tail 5, (by kernel_rfl)
     go_wp2_with (refine wp_copySt rfl (.tmp 43) (.tmp 44) rfl sb (4 * k) (16 - 4 * k) (16 - 4 * k) M HS.out.1.drew rfl (by omega) (some ⟨tb, 0, none⟩) 4 4 _ rfl (show Rd wr.drew _ _ _ _ from HA.out.1.rd) (by omega) (by omega) ?_; intro wv hv hTv; have HV := Lib.hid (And.intro hv hTv); clear hv hTv)
     have hnx : mixN l fs (k + 1) = splice M (4 * k) ((mixC M fs (4 * k)).take (16 - 4 * k)) := by
      rw [List.take_of_length_le (by show 4 ≤ _; omega), ← hM]; rfl
     go_roundw
     case rel =>
      refine ⟨k + 1, by omega, by go_num, ?_, ?_, ?_⟩
      ·rw [hnx]; exact HV.out.1
      ·exact HS.out.2.1.drew.turn HV.out.2 (by simp; omega)
      ·exact HS.out.2.2.drew.trans HV.out.2 (fun x hx => .inl hx)
     case measure => simp [intOf]; omega
  ·obtain rfl : k = 4 := by omega
   have HX := Lib.hid (And.intro hS hT)
   clear hS hF hT hlt hk
   go_wp2_with fail
   go_end0
   exact ⟨rfl, HX.out.1, HX.out.2⟩
theorem xorL_lenLe (l k : List UInt8) (n : Nat) (h1 : l.length = n) (h2 : n ≤ k.length) : (xorL l k).length = n := by unfold xorL; rw [List.length_zipWith, h1, Nat.min_eq_left h2]
theorem xored_any (A C : Option Addr) (n ca m cb : Nat) (a b : List UInt8) (w : World) (ha : Rd w A n ca a) (hb : Rd w C m cb b) (hnm : n ≤ m) (hn : n ≤ 100000) :
  Calls Tryz.prog 111 #[.slice A n ca, .slice C m cb] w fun e w' => e = .returned (.slice (some ⟨w.heap.size, 0, none⟩) n n) ∧ Own w' w.heap.size (.slice (some ⟨w.heap.size, 0, none⟩) n n) (xorL a b) ∧ Below w.heap.size w w' := by
 have hal : a.length = n := ha.1.symm
 have hbl : b.length = m := hb.1.symm
 have hca := ha.2.1
 have hcb := hb.2.1
 obtain ⟨X, hX⟩ : ∃ X, w.heap.size = X := ⟨_, rfl⟩
 have hmk := Tryz.prog_make n (by omega) w
 obtain ⟨w1, hw1⟩ : ∃ w1, w.alloc (.cells (madeCells #[.int .u8 0] n) 5) = w1 := ⟨_, rfl⟩
 have hO1 : Own w1 X (.slice (some ⟨X, 0, none⟩) n n) (zs n) := by rw [← hw1, ← hX]; exact Own.made w n (by unfold maxLen; omega)
 have hB1 : Below X w w1 := by rw [← hw1, ← hX]; exact (Below.refl _ _).alloc (Nat.le_refl _) _
 rw [hw1, hX] at hmk
 have HH := Lib.hid (And.intro ha (And.intro hb (And.intro hal (And.intro hbl (And.intro hO1 hB1)))))
 clear ha hb hal hbl hO1 hB1 hw1
 rw [hX]
 go_enter Tryz.func111, Tryz.ntmps111
 go_wp2_with fail
 clear hmk
 go_loopw [12] (fun iv wr => ∃ i : Nat, i ≤ n ∧ iv = .int .i64 (i : Int) ∧ Own wr X (.slice (some ⟨X, 0, none⟩) n n) (mid i (xorL a b) (zs n)) ∧ Below X w wr) (fun iv _ => n - (intOf iv).toNat)
 case atStart => exact ⟨0, by omega, rfl, by rw [mid_zero]; exact HH.out.2.2.2.2.1, HH.out.2.2.2.2.2⟩
 case round =>
  obtain ⟨i, hi, rfl, hO, hB⟩ := hrel
  by_cases hlt : i < n
  ·have hq : (i : Int) < n := by omega
   have hqm : (i : Int) < m := by omega
   obtain ⟨ba, oa, rfl, haa⟩ := HH.out.1.addr (by omega)
   obtain ⟨bb, ob, rfl, hbb⟩ := HH.out.2.1.addr (by omega)
   have hbaX : ba < X := by rw [← hX]; exact haa.1
   have hbbX : bb < X := by rw [← hX]; exact hbb.1
   obtain ⟨x, hx⟩ : ∃ x, a[i]? = some x := ⟨_, List.getElem?_eq_getElem (by rw [HH.out.2.2.1]; exact hlt)⟩
   obtain ⟨y, hy⟩ : ∃ y, b[i]? = some y := ⟨_, List.getElem?_eq_getElem (by rw [HH.out.2.2.2.1]; omega)⟩
   have hxy := xorL_at a b i x y hx hy
   have y0 : wr.cell? ⟨ba, oa + i, none⟩ = some (B x) := by rw [hB.cell (p := ⟨ba, oa + i, none⟩) hbaX]; exact haa.2 i x hx
   have y1 : wr.cell? ⟨bb, ob + i, none⟩ = some (B y) := by rw [hB.cell (p := ⟨bb, ob + i, none⟩) hbbX]; exact hbb.2 i y hy
   obtain ⟨z, hz⟩ : ∃ z, (mid i (xorL a b) (zs n))[i]? = some z := ⟨_, List.getElem?_eq_getElem (by rw [← hO.len]; exact hlt)⟩
   have y2 := hO.cell i z hz
   have y3 := hO.frozen i
   have hqa : (i : Int) < ca := by omega
   have HS := Lib.hid (And.intro hO (And.intro hB hxy))
   clear hO hB hxy hx hy hz haa hbb
   go_wp2_with fail
   go_still_tail 12, (by kernel_rfl)
   go_wp2_with fail
   have h1 := HS.out.1.set_ i (x ^^^ y) hlt
   rw [mid_set _ _ _ _ HS.out.2.2 (by rw [zs_len]; exact hlt)] at h1
   have hT : Turn [X] wr (wr.setCell ⟨X, i, none⟩ (B (x ^^^ y))).drew := ((Turn.refl _ _).setCell (p := ⟨X, i, none⟩) (.inl (by simp)) _).drew
   go_roundw
   case rel => exact ⟨i + 1, by omega, by go_num, h1, below_turn HS.out.2.1 hT (by simp) (by rw [← hX]; have := HS.out.2.1.size; omega)⟩
   case measure => simp [intOf]; omega
  ·obtain rfl : i = n := by omega
   have hq : ¬ ((i : Int) < i) := by omega
   rw [mid_all _ _ i (xorL_lenLe _ _ i HH.out.2.2.1 (by rw [HH.out.2.2.2.1]; exact hnm)) (zs_len i)] at hO
   have HS := Lib.hid (And.intro hO hB)
   clear hO hB hi hlt
   go_wp2_with fail
   go_ret
   exact ⟨rfl, HS.out.1, HS.out.2⟩
end Go.Proofs.YtgjnmpjimhbfgaaGreatDoor
