/-
  Contracts of hashes.HMAC and number.
-/
import Derived.Test.YtdlipoklhojjkaaDoorKeyOf
namespace Go.Proofs.YtdlipoklhojjkaaDoor
open Go.RowKit

/-- The code of parts by a key. -/
def hmac (kind : Int) (key : List UInt8) (ls : List (List UInt8)) : List UInt8 := mac kind (padTo (bl kind) (hkey kind key)) ls
theorem hsize_ne (kind : Int) (hk : 1 ≤ kind ∧ kind ≤ 5) : (hsize kind == 0) = false := by
  have hcase : kind = 1 ∨ kind = 2 ∨ kind = 3 ∨ kind = 4 ∨ kind = 5 := by omega
  rcases hcase with rfl | rfl | rfl | rfl | rfl <;> decide
theorem hsize_none (kind : Int) (hk : kind < 1 ∨ 5 < kind) : hsize kind = 0 := by simp [hsize]; omega
theorem PartsAt.below {w w' : World} {A : Option Addr} {m c : Nat} {ls : List (List UInt8)} (h : PartsAt w A m c ls) (hb : Below w.heap.size w w') : PartsAt w' A m c ls := by
  obtain ⟨h1, h2, h3, h4⟩ := h
  refine ⟨h1, h2, h3, fun hm => ?_⟩
  obtain ⟨b, off, rfl, hlt, hc⟩ := h4 hm
  refine ⟨b, off, rfl, Nat.lt_of_lt_of_le hlt hb.size, fun i l hl => ?_⟩
  obtain ⟨A', m', c', hcell, hr⟩ := hc i l hl
  exact ⟨A', m', c', (hb.cell (p := ⟨b, off + i, none⟩) hlt).trans hcell, hr.below hb⟩
theorem hmac_none (kind : Int) (hk : kind < 1 ∨ 5 < kind) (A : Option Addr) (m c : Nat) (A2 : Option Addr) (m2 c2 : Nat) (w : World) :
    Calls Tryd.prog 23 #[.int .i64 kind, .slice A m c, .slice A2 m2 c2] w fun e w' => e = .returned (.slice none 0 0) ∧ w = w' := by
  have hz := hsize_none kind hk
  go_enter Tryd.func23, Tryd.ntmps23
  go_wp2_with (go_at_call 15; refine (size_any kind _).mono ?_; rintro e w' ⟨rfl, rfl⟩; rw [hz])
  go_ret
  exact ⟨rfl, rfl⟩
theorem hmac_any (kind : Int) (hk : 1 ≤ kind ∧ kind ≤ 5) (A : Option Addr) (m c : Nat) (key : List UInt8) (A2 : Option Addr) (m2 c2 : Nat) (ls : List (List UInt8)) (w : World) (hr : Rd w A m c key) (hlk : key.length ≤ 70368744177000)
    (hp : PartsAt w A2 m2 c2 ls) (hl : ∀ l ∈ ls, l.length ≤ 70368744177000) (hK : KAt w) :
    Calls Tryd.prog 23 #[.int .i64 kind, .slice A m c, .slice A2 m2 c2] w fun e w' => ∃ g c', e = .returned (.slice (some ⟨g, 0, none⟩) (hmac kind key ls).length c') ∧
      Own w' w.heap.size (.slice (some ⟨g, 0, none⟩) (hmac kind key ls).length c') (hmac kind key ls) ∧ Below w.heap.size w w' := by
  have HK := Lib.hid (newKeyed_any kind hk A m c key w hr hlk hK)
  have HP := Lib.hid (And.intro hp (And.intro hl hK))
  have hz := hsize_ne kind hk
  unfold hmac
  generalize padTo (bl kind) (hkey kind key) = pd at *
  clear hr hlk hp hl hK hk
  go_enter Tryd.func23, Tryd.ntmps23
  go_wp2_with (first
    | (go_at_call 15; refine (size_any kind _).mono ?_; rintro e w' ⟨rfl, rfl⟩)
    | (go_at_call 39; with_reducible refine HK.out.mono ?_; rintro e w1 ⟨d1, d2, wv1, wv2, rfl, hKA, hb⟩; have HO := Lib.hid (keyOf_any w.heap.size d1 d2 wv1 wv2 kind pd A2 m2 c2 ls w1 hKA (HP.out.1.below hb) HP.out.2.1 (HP.out.2.2.below hb)); have HB := Lib.hid hb; clear hKA hb)
    | (go_at_call 40; with_reducible refine HO.out.mono ?_; rintro e w2 ⟨g, c', rfl, hO, hb2⟩))
  go_ret
  exact ⟨g, c', rfl, hO.mono HB.out.size, HB.out.trans (hb2.mono HB.out.size)⟩

theorem wrapU32 (n : Int) : Value.int .u32 (IntKind.u32.wrap n) = U32 (UInt32.ofNat (IntKind.u32.wrap n).toNat) := by
  symm
  apply U32_eq
  rw [wrap_u32]
  have h1 : 0 ≤ n % 4294967296 := Int.emod_nonneg _ (by decide)
  have h2 : n % 4294967296 < 4294967296 := Int.emod_lt_of_pos _ (by decide)
  rw [UInt32.toNat_ofNat', Nat.mod_eq_of_lt (by omega)]
  omega
/-- A number in four bytes. -/
def num4 (n : Int) : List UInt8 := bytes32 (UInt32.ofNat (n % 4294967296).toNat)
theorem number_any (n : Int) (w : World) : Calls Tryd.prog 42 #[.int .i64 n] w fun e w' => ∃ g c', e = .returned (.slice (some ⟨g, 0, none⟩) 4 c') ∧ Own w' w.heap.size (.slice (some ⟨g, 0, none⟩) 4 c') (num4 n) ∧ Below w.heap.size w w' := by
  have HA := Lib.hid (append32_any (.slice none 0 0) (UInt32.ofNat (n % 4294967296).toNat) [] w w.heap.size (World.ownsRow_nil _ _ _ _) (Nat.le_refl _) (by simp))
  go_enter Tryd.func42, Tryd.ntmps42
  have e := wrapU32 n
  rw [wrap_u32] at e
  go_wp2_with (go_at_call 35; refine HA.out.mono ?_; rintro e2 w' ⟨v', rfl, hO, hT, hne⟩; obtain ⟨g, c', rfl⟩ := hO.form hne)
  go_ret
  exact ⟨g, c', rfl, hO, Turn.below (by simpa [Value.ownBlock] using hT)⟩
end Go.Proofs.YtdlipoklhojjkaaDoor
