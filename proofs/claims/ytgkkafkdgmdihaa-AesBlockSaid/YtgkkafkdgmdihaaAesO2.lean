/-
  The ciphers keep when one cell that holds a truth value is written.
-/
import Derived.Test.YtgkkafkdgmdihaaAesO1
import Derived.Test.YtgkkafkdgmdihaaAesC1
namespace Go.Proofs.Ytgkkafkdgmdihaa
open Go.RowKit

theorem Rd.farB {w : World} {r m c : Nat} {A : Option Addr} {l : List UInt8} {t : TypeId} {x : Bool} (h : Rd w A m c l) (hm : 0 < m) (hb : Blk w r t #[.bool x]) : ∀ ad, A = some ad → ad.block ∉ [r] := by
  have hml := h.1
  obtain ⟨b, off, rfl, ha⟩ := h.addr hm
  intro ad e hmem
  cases e
  simp at hmem
  subst hmem
  obtain ⟨y, hy⟩ : ∃ y, l[0]? = some y := ⟨_, List.getElem?_eq_getElem (by omega)⟩
  have h1 := ha.2 0 y hy
  rw [hb.cell] at h1
  rcases off with _ | off
  · simp [B] at h1
  · simp at h1
theorem RCip.far {W W' : World} {c kb R cap g1 g2 r : Nat} {ks : List UInt8} {x : Bool} (h : RCip W c kb R cap g1 g2 ks) (hb : Blk W r 4 #[.bool x]) (ht : Turn [r] W W') : RCip W' c kb R cap g1 g2 ks := by
  obtain ⟨h1, h2, h3, h4, h5, h6, h7, h8, h9⟩ := h
  have hkb : kb ∉ [r] := by
    intro hm
    simp at hm
    subst hm
    obtain ⟨gk, o, a, _⟩ := h7 0 (by omega)
    rw [hb.cell] at a
    simp at a
  refine ⟨h1.turn ht (fun hm => ?_), Nat.lt_of_lt_of_le h2 ht.size, h3, h4, h5, h6, fun i hi => ?_, h8.turn ht (h8.farB (by omega) hb), h9.turn ht (h9.farB (by omega) hb)⟩
  · simp at hm
    exact Blk.ne_ h1 hb (by decide) hm
  · obtain ⟨gk, o, a, b⟩ := h7 i hi
    exact ⟨gk, o, (World.cell?_of_block (a := ⟨kb, i, none⟩) (ht.block kb h2 hkb)).trans a, b.turn ht (b.farB (by omega) hb)⟩
theorem Cip.far {W W' : World} {b0 c : Nat} {ks : List UInt8} {K R cp r : Nat} (h : Cip W b0 c ks K R cp) (hr : r < b0) (ht : Turn [r] W W') : Cip W' b0 c ks K R cp := by
  obtain ⟨c1, c2, c3, c4, c5, c6, c7, c8, c9, c10, c11⟩ := h
  refine ⟨⟨c1.1, c1.2.1, c1.2.2.turn ht (by simp; omega)⟩, c2, c3, Nat.lt_of_lt_of_le c4 ht.size, c5, c6, c7, c8, c9, c10, fun j x hx => ?_⟩
  rw [World.cell?_of_block (a := ⟨K, j, none⟩) (ht.block K c4 (by simp; omega))]; exact c11 j x hx
theorem wpAnyH_turn {P : Program} {md : Region.Mode} {ops : Array Oper} {Q : Exit → Act → World → Prop} {w0 w1 w : World} {S : List Nat} (h01 : Turn S w0 w1) {fuel : Nat} {listed : Array Bool} {a : Act}
    (h : Turn S w1 w → wpAnyH P md ops Q (Turn S w1) fuel listed a w) (hw : Turn S w1 w) : wpAnyH P md ops Q (Turn S w0) fuel listed a w :=
  wpAnyH_mono (fun _ h' => h01.trans h' (fun _ hx => .inl hx)) _ _ _ _ (h hw)
end Go.Proofs.Ytgkkafkdgmdihaa
