/-
  Contract of the reference's Of.
-/
import Derived.Test.YtdgjjmaiibafhaaDoorR1
import Derived.Test.YtdgjjmaiibafhaaDoorR512
namespace Go.Proofs.YtdgjjmaiibafhaaDoor
open Go.RowKit

def sha224H : List UInt32 := [0xc1059ed8, 0x367cd507, 0x3070dd17, 0xf70e5939, 0xffc00b31, 0x68581511, 0x64f98fa7, 0xbefa4fa4]
def sha256H : List UInt32 := [0x6a09e667, 0xbb67ae85, 0x3c6ef372, 0xa54ff53a, 0x510e527f, 0x9b05688c, 0x1f83d9ab, 0x5be0cd19]
def sha384H : List UInt64 := [0xcbbb9d5dc1059ed8, 0x629a292a367cd507, 0x9159015a3070dd17, 0x152fecd8f70e5939, 0x67332667ffc00b31, 0x8eb44a8768581511, 0xdb0c2e0d64f98fa7, 0x47b5481dbefa4fa4]
def sha512H : List UInt64 := [0x6a09e667f3bcc908, 0xbb67ae8584caa73b, 0x3c6ef372fe94f82b, 0xa54ff53a5f1d36f1, 0x510e527fade682d1, 0x9b05688c2b3e6c1f, 0x1f83d9abfb41bd6b, 0x5be0cd19137e2179]
/-- The reference's hash of a message. -/
def rof (kind : Int) (l : List UInt8) : List UInt8 :=
  if kind = 1 then (rTo1 sha1H (rpad 64 l) ((rpad 64 l).length / 64)).flatMap bytes32
  else if kind = 2 then ((rTosha256 sha224H (rpad 64 l) ((rpad 64 l).length / 64)).flatMap bytes32).take 28
  else if kind = 3 then (rTosha256 sha256H (rpad 64 l) ((rpad 64 l).length / 64)).flatMap bytes32
  else if kind = 4 then ((rTosha512 sha384H (rpad 128 l) ((rpad 128 l).length / 128)).flatMap bytes64).take 48
  else if kind = 5 then (rTosha512 sha512H (rpad 128 l) ((rpad 128 l).length / 128)).flatMap bytes64
  else []
theorem Own.form_n {w : World} {base : Nat} {v : Value} {l : List UInt8} (h : Own w base v l) (N : Nat) (hl : l.length = N) (hN : 0 < N) : ∃ g c, v = .slice (some ⟨g, 0, none⟩) N c ∧ N ≤ c ∧ base ≤ g := by
  obtain ⟨g, c, rfl⟩ := h.form (h.ne_nil (by omega))
  subst hl
  exact ⟨g, c, rfl, h.blk.2.1, h.blk.2.2.2.1⟩
/-- A row of bytes as a result. -/
def RowRes (w : World) (l : List UInt8) (e : Ending) (w' : World) : Prop := ∃ A n c, e = .returned (.slice A n c) ∧ Own w' w.heap.size (.slice A n c) l ∧ Below w.heap.size w w'
theorem RowRes.of {w w' : World} {l : List UInt8} {v : Value} (ho : Own w' w.heap.size v l) (hb : Below w.heap.size w w') : RowRes w l (.returned v) w' := by
  obtain ⟨A, c, rfl, _⟩ := ho.shape
  exact ⟨A, _, c, rfl, ho, hb⟩
theorem rof_none (kind : Int) (hk : kind < 1 ∨ 5 < kind) (v : Value) (w : World) :
    Calls Tryd.prog 51 #[.int .i64 kind, v] w fun e w' => e = .returned (.slice none 0 0) ∧ w = w' := by
  have h1 : (kind == 1) = false := by rw [beq_eq_false_iff_ne]; omega
  have h2 : (kind == 2) = false := by rw [beq_eq_false_iff_ne]; omega
  have h3 : (kind == 3) = false := by rw [beq_eq_false_iff_ne]; omega
  have h4 : (kind == 4) = false := by rw [beq_eq_false_iff_ne]; omega
  have h5 : (kind == 5) = false := by rw [beq_eq_false_iff_ne]; omega
  clear hk
  go_enter Tryd.func51, Tryd.ntmps51
  go_wp2
  go_ret
  exact ⟨rfl, rfl⟩
theorem rof1 (A : Option Addr) (m c : Nat) (l : List UInt8) (w : World) (hr : Rd w A m c l) (hl : l.length ≤ 140737488352000) :
    Calls Tryd.prog 51 #[.int .i64 1, .slice A m c] w (RowRes w (rof 1 l)) := by
  have HS := Lib.hid (rsha1_any A m c l w hr hl)
  clear hr hl
  go_enter Tryd.func51, Tryd.ntmps51
  go_wp2_with (go_at_call 59; with_reducible refine HS.out.mono ?_; rintro e w5 ⟨v5, rfl, hO5, hb5⟩)
  go_ret
  exact RowRes.of (by simpa [rof] using hO5) hb5
theorem rof2 (A : Option Addr) (m c : Nat) (l : List UInt8) (w : World) (hr : Rd w A m c l) (hl : l.length ≤ 140737488352000) :
    Calls Tryd.prog 51 #[.int .i64 2, .slice A m c] w (RowRes w (rof 2 l)) := by
  have hb0 : Below w.heap.size w (w.alloc (.cells (sha224H.map U32).toArray 66)) := (Below.refl _ _).alloc (Nat.le_refl _) _
  have HS := Lib.hid (rsha256_any A m c w.heap.size 8 l sha224H _ (hr.below hb0) hl (Blk.new w _ _) rfl)
  have HB := Lib.hid hb0
  clear hr hl hb0
  go_enter Tryd.func51, Tryd.ntmps51
  go_wp2_with fail
  refine HS.out.mono ?_
  rintro e w5 ⟨v5, rfl, hO5, hT5⟩
  have hb5 := below_turn HB.out hT5 (by simp) (by simp)
  have hlen : ((rTosha256 sha224H (rpad 64 l) ((rpad 64 l).length / 64)).flatMap bytes32).length = 32 := by rw [flat_len _ _ 4 (fun _ => rfl), rTosha256_len _ _ _ rfl]
  have hO6 := hO5.mono (base' := w.heap.size) (by simp)
  obtain ⟨g5, c5, rfl, hc5, _⟩ := hO6.form_n 32 hlen (by decide)
  have hO7 := hO6.front (k := 28) (by omega)
  have H := Lib.hid (And.intro hO7 hb5)
  have hci : (28 : Int) ≤ c5 := by omega
  clear hO5 hO6 hO7 hT5 hb5 hlen HS HB
  go_wp2_with fail
  go_ret
  exact RowRes.of (by simpa [rof] using H.out.1) H.out.2
theorem rof3 (A : Option Addr) (m c : Nat) (l : List UInt8) (w : World) (hr : Rd w A m c l) (hl : l.length ≤ 140737488352000) :
    Calls Tryd.prog 51 #[.int .i64 3, .slice A m c] w (RowRes w (rof 3 l)) := by
  have hb0 : Below w.heap.size w (w.alloc (.cells (sha256H.map U32).toArray 66)) := (Below.refl _ _).alloc (Nat.le_refl _) _
  have HS := Lib.hid (rsha256_any A m c w.heap.size 8 l sha256H _ (hr.below hb0) hl (Blk.new w _ _) rfl)
  have HB := Lib.hid hb0
  clear hr hl hb0
  go_enter Tryd.func51, Tryd.ntmps51
  go_wp2_with fail
  refine HS.out.mono ?_
  rintro e w5 ⟨v5, rfl, hO5, hT5⟩
  have hb5 := below_turn HB.out hT5 (by simp) (by simp)
  have hlen : ((rTosha256 sha256H (rpad 64 l) ((rpad 64 l).length / 64)).flatMap bytes32).length = 32 := by rw [flat_len _ _ 4 (fun _ => rfl), rTosha256_len _ _ _ rfl]
  have hO6 := hO5.mono (base' := w.heap.size) (by simp)
  obtain ⟨g5, c5, rfl, hc5, _⟩ := hO6.form_n 32 hlen (by decide)
  have H := Lib.hid (And.intro hO6 hb5)
  clear hO5 hO6 hT5 hb5 hlen HS HB
  go_wp2_with fail
  go_ret
  exact RowRes.of (by simpa [rof] using H.out.1) H.out.2
theorem rof4 (A : Option Addr) (m c : Nat) (l : List UInt8) (w : World) (hr : Rd w A m c l) (hl : l.length ≤ 140737488352000) :
    Calls Tryd.prog 51 #[.int .i64 4, .slice A m c] w (RowRes w (rof 4 l)) := by
  have hb0 : Below w.heap.size w (w.alloc (.cells (sha384H.map U64).toArray 69)) := (Below.refl _ _).alloc (Nat.le_refl _) _
  have HS := Lib.hid (rsha512_any A m c w.heap.size 8 l sha384H _ (hr.below hb0) hl (Blk.new w _ _) rfl)
  have HB := Lib.hid hb0
  clear hr hl hb0
  go_enter Tryd.func51, Tryd.ntmps51
  go_wp2_with fail
  refine HS.out.mono ?_
  rintro e w5 ⟨v5, rfl, hO5, hT5⟩
  have hb5 := below_turn HB.out hT5 (by simp) (by simp)
  have hlen : ((rTosha512 sha384H (rpad 128 l) ((rpad 128 l).length / 128)).flatMap bytes64).length = 64 := by rw [flat_len _ _ 8 (fun _ => rfl), rTosha512_len _ _ _ rfl]
  have hO6 := hO5.mono (base' := w.heap.size) (by simp)
  obtain ⟨g5, c5, rfl, hc5, _⟩ := hO6.form_n 64 hlen (by decide)
  have hO7 := hO6.front (k := 48) (by omega)
  have H := Lib.hid (And.intro hO7 hb5)
  have hci : (48 : Int) ≤ c5 := by omega
  clear hO5 hO6 hO7 hT5 hb5 hlen HS HB
  go_wp2_with fail
  go_ret
  exact RowRes.of (by simpa [rof] using H.out.1) H.out.2
theorem rof5 (A : Option Addr) (m c : Nat) (l : List UInt8) (w : World) (hr : Rd w A m c l) (hl : l.length ≤ 140737488352000) :
    Calls Tryd.prog 51 #[.int .i64 5, .slice A m c] w (RowRes w (rof 5 l)) := by
  have hb0 : Below w.heap.size w (w.alloc (.cells (sha512H.map U64).toArray 69)) := (Below.refl _ _).alloc (Nat.le_refl _) _
  have HS := Lib.hid (rsha512_any A m c w.heap.size 8 l sha512H _ (hr.below hb0) hl (Blk.new w _ _) rfl)
  have HB := Lib.hid hb0
  clear hr hl hb0
  go_enter Tryd.func51, Tryd.ntmps51
  go_wp2_with fail
  refine HS.out.mono ?_
  rintro e w5 ⟨v5, rfl, hO5, hT5⟩
  have hb5 := below_turn HB.out hT5 (by simp) (by simp)
  have hlen : ((rTosha512 sha512H (rpad 128 l) ((rpad 128 l).length / 128)).flatMap bytes64).length = 64 := by rw [flat_len _ _ 8 (fun _ => rfl), rTosha512_len _ _ _ rfl]
  have hO6 := hO5.mono (base' := w.heap.size) (by simp)
  obtain ⟨g5, c5, rfl, hc5, _⟩ := hO6.form_n 64 hlen (by decide)
  have H := Lib.hid (And.intro hO6 hb5)
  clear hO5 hO6 hT5 hb5 hlen HS HB
  go_wp2_with fail
  go_ret
  exact RowRes.of (by simpa [rof] using H.out.1) H.out.2
theorem rof_any (kind : Int) (hk : 1 ≤ kind ∧ kind ≤ 5) (A : Option Addr) (m c : Nat) (l : List UInt8) (w : World) (hr : Rd w A m c l) (hl : l.length ≤ 140737488352000) :
    Calls Tryd.prog 51 #[.int .i64 kind, .slice A m c] w (RowRes w (rof kind l)) := by
  have hcase : kind = 1 ∨ kind = 2 ∨ kind = 3 ∨ kind = 4 ∨ kind = 5 := by omega
  rcases hcase with rfl | rfl | rfl | rfl | rfl
  · exact rof1 A m c l w hr hl
  · exact rof2 A m c l w hr hl
  · exact rof3 A m c l w hr hl
  · exact rof4 A m c l w hr hl
  · exact rof5 A m c l w hr hl
end Go.Proofs.YtdgjjmaiibafhaaDoor
