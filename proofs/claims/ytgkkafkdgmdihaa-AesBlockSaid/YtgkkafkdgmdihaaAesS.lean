/-
  The state of AES: sixteen bytes in a block; add.
-/
import Derived.Test.YtgkkafkdgmdihaaAesA
import Derived.StillTailTactics
namespace Go.Proofs.Ytgkkafkdgmdihaa
open Go.RowKit

/-- Sixteen bytes in a variable. -/
def St (W : World) (b : Nat) (l : List UInt8) : Prop := l.length = 16 ∧ Blk W b 45 (l.map B).toArray
theorem St.cell {W : World} {b : Nat} {l : List UInt8} (h : St W b l) (i : Nat) (x : UInt8) (hx : l[i]? = some x) : W.cell? ⟨b, i, none⟩ = some (B x) := by
  rw [h.2.cell, List.getElem?_toArray, List.getElem?_map, hx]; rfl
theorem St.frozen {W : World} {b : Nat} {l : List UInt8} (h : St W b l) (i : Nat) : W.frozen? ⟨b, i, none⟩ = false := h.2.frozen i
theorem St.set_ {W : World} {b : Nat} {l : List UInt8} (h : St W b l) (i : Nat) (x : UInt8) : St (W.setCell ⟨b, i, none⟩ (B x)) b (l.set i x) := by
  refine ⟨by rw [List.length_set]; exact h.1, ?_⟩
  have := h.2.set_ i (B x)
  rwa [List.setIfInBounds_toArray, ← List.map_set] at this
theorem St.drew {W : World} {b : Nat} {l : List UInt8} (h : St W b l) : St W.drew b l := h
theorem St.alloc_ {W : World} {b : Nat} {l : List UInt8} (h : St W b l) (o : Obj) : St (W.alloc o) b l := ⟨h.1, h.2.alloc o⟩
theorem St.turn {w w' : World} {S : List Nat} {b : Nat} {l : List UInt8} (h : St w b l) (ht : Turn S w w') (hn : b ∉ S) : St w' b l := ⟨h.1, h.2.turn ht hn⟩
theorem St.lt {W : World} {b : Nat} {l : List UInt8} (h : St W b l) : b < W.heap.size := h.2.lt
/-- The first k bytes are done. -/
def mid (k : Nat) (o l : List UInt8) : List UInt8 := o.take k ++ l.drop k
theorem mid_zero (o l : List UInt8) : mid 0 o l = l := by simp [mid]
theorem mid_all (o l : List UInt8) (n : Nat) (ho : o.length = n) (hl : l.length = n) : mid n o l = o := by
  unfold mid
  rw [List.take_of_length_le (by omega), List.drop_eq_nil_of_le (by omega), List.append_nil]
theorem mid_at (k : Nat) (o l : List UInt8) (h : k ≤ o.length) (j : Nat) (hj : k ≤ j) : (mid k o l)[j]? = l[j]? := by
  unfold mid
  rw [List.getElem?_append_right (by rw [List.length_take]; omega), List.getElem?_drop, List.length_take, Nat.min_eq_left h]
  congr 1; omega
theorem mid_set (k : Nat) (o l : List UInt8) (x : UInt8) (hx : o[k]? = some x) (hl : k < l.length) : (mid k o l).set k x = mid (k + 1) o l := by
  have hk := (List.getElem?_eq_some_iff.1 hx).1
  unfold mid
  rw [List.set_append_right _ _ (by rw [List.length_take]; omega), List.length_take, Nat.min_eq_left (by omega), Nat.sub_self, List.take_add_one, hx]
  rw [List.drop_eq_getElem_cons hl, List.set_cons_zero, List.append_assoc]
  rfl
def xorL (l k : List UInt8) : List UInt8 := List.zipWith (· ^^^ ·) l k
theorem xorL_len (l k : List UInt8) (n : Nat) (h1 : l.length = n) (h2 : k.length = n) : (xorL l k).length = n := by unfold xorL; rw [List.length_zipWith, h1, h2, Nat.min_self]
theorem xorL_at (l k : List UInt8) (j : Nat) (x y : UInt8) (hx : l[j]? = some x) (hy : k[j]? = some y) : (xorL l k)[j]? = some (x ^^^ y) := by
  unfold xorL; rw [List.getElem?_zipWith, hx, hy]
theorem at16 (l : List UInt8) (h : l.length = 16) (j : Nat) (hj : j < 16) : ∃ x, l[j]? = some x := ⟨_, List.getElem?_eq_getElem (by omega)⟩
theorem add_any (sb : Nat) (l : List UInt8) (A : Option Addr) (c : Nat) (k : List UInt8) (w : World) (h : St w sb l) (hk : Rd w A 16 c k) (hne : ∀ ad, A = some ad → ad.block ≠ sb) :
    Calls Try.prog 24 #[.pointer (some ⟨sb, 0, none⟩), .slice A 16 c] w fun e w' => e = .returned (.tuple #[]) ∧ St w' sb (xorL l k) ∧ Turn [sb] w w' := by
  have hkl : k.length = 16 := hk.1.symm
  obtain ⟨b, off, rfl, ha⟩ := hk.addr (by omega)
  have hbs : b ≠ sb := hne _ rfl
  have HK := Lib.hid (And.intro ha hkl)
  have HH := Lib.hid h
  clear hk hne ha h hkl
  go_enter Try.func24, Try.ntmps24
  go_wp2_with fail
  go_loopw [5] (fun iv wr => ∃ i : Nat, i ≤ 16 ∧ iv = .int .i64 (i : Int) ∧ St wr sb (mid i (xorL l k) l) ∧ Turn [sb] w wr) (fun iv _ => 16 - (intOf iv).toNat)
  case atStart => exact ⟨0, by omega, rfl, by rw [mid_zero]; exact HH.out, Turn.refl _ _⟩
  case round =>
    obtain ⟨i, hi, rfl, hS, hT⟩ := hrel
    by_cases hlt : i < 16
    · have hq : (i : Int) < 16 := by omega
      obtain ⟨x, hx⟩ := at16 l HH.out.1 i hlt
      obtain ⟨y, hy⟩ := at16 k HK.out.2 i hlt
      have hxy := xorL_at l k i x y hx hy
      have y0 := hS.cell i x (by rw [mid_at _ _ _ (by rw [xorL_len _ _ 16 HH.out.1 HK.out.2]; omega) _ (Nat.le_refl _)]; exact hx)
      have y1 := hS.frozen i
      have y2 : wr.cell? ⟨b, off + i, none⟩ = some (B y) := by
        have hB : wr.cell? ⟨b, off + i, none⟩ = w.cell? ⟨b, off + i, none⟩ := World.cell?_of_block (a := ⟨b, off + i, none⟩) (hT.block b HK.out.1.1 (by simp; exact hbs))
        rw [hB]; exact HK.out.1.2 i y hy
      have HS := Lib.hid (And.intro hS (And.intro hT hxy))
      clear hS hT hxy hx hy
      go_wp2_with fail
      go_still_tail 12, (by kernel_rfl)
      go_wp2_with fail
      have h1 := HS.out.1.set_ i (x ^^^ y)
      rw [mid_set _ _ _ _ HS.out.2.2 (by rw [HH.out.1]; exact hlt)] at h1
      refine ⟨⟨i + 1, by omega, by go_num, h1.drew, (HS.out.2.1.setCell (p := ⟨sb, i, none⟩) (.inl (by simp)) _).drew⟩, by simp [intOf]; omega⟩
    · obtain rfl : i = 16 := by omega
      have hq : ¬ ((16 : Int) < 16) := by omega
      rw [mid_all _ _ 16 (xorL_len _ _ 16 HH.out.1 HK.out.2) HH.out.1] at hS
      have HS := Lib.hid (And.intro hS hT)
      clear hS hT hi hlt
      go_wp2_with fail
      go_end0
      exact ⟨rfl, HS.out.1, HS.out.2⟩
end Go.Proofs.Ytgkkafkdgmdihaa
