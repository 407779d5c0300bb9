/-
  Contracts of the small functions of package disk, and of bytes.Clone.
-/
import Derived.Test.YtpfijfflfgfojaaBase
import Derived.Test.YtpfijfflfgfojaaRows
namespace Go.Proofs.Ytpfijfflfgfojaa
open Go.RowKit

theorem Try.infoU8 : (Try.prog.info? 5).map (fun i => (i.zero, i.size, i.bytes)) = some (some (.int .u8 0), 1, 1) := by kernel_rfl
theorem eqNilBytes (A : Option Addr) (n c : Nat) (w : World) : (binOp .eql 28 (.slice A n c) (.slice none 0 0)).run Try.prog w = .ok (.bool A.isNone) w :=
  Lib.run_eql_slice_nil w _ _ A n c 0 0 Try.underlying28

/-- bytes.Clone of nil. -/
theorem clone_nil (w : World) :
    Calls Try.prog 28 #[.slice none 0 0] w fun e w' => e = .returned (.slice none 0 0) ∧ w = w' := by
  have hE := eqNilBytes
  go_enter Try.func28, Try.ntmps28
  go_wp2
  go_ret
  exact ⟨rfl, rfl⟩

/-- bytes.Clone of a slice that is not nil: a row of its own. -/
theorem clone_any (b off n c : Nat) (l : List UInt8) (w : World) (h : At w b off l) (hn : n = l.length) (hc : n ≤ 140737488351232) :
    Calls Try.prog 28 #[.slice (some ⟨b, off, none⟩) n c] w fun e w' =>
      ∃ g c', e = .returned (.slice (some ⟨g, 0, none⟩) n c') ∧ Own w' w.heap.size (.slice (some ⟨g, 0, none⟩) n c') l ∧ Below w.heap.size w w' := by
  subst hn
  obtain ⟨i0, hi, hz0, hz1, hz2⟩ := info_parts Try.infoU8
  have hown : (w.alloc (.cells #[] 5)).ownsRow w.heap.size 5 1 (.slice (some ⟨w.heap.size, 0, none⟩) 0 0) 0 [] := World.ownsRow_made w #[] 0 (Nat.le_refl _) (by unfold maxLen; omega) rfl
  have hcs : ∀ (j : Nat) (u : Value), (l.map B)[j]? = some u → (w.alloc (.cells #[] 5)).cell? ((⟨b, off, none⟩ : Addr).add j) = some u := (h.keep (by simp) (Below.heap_alloc w _ b h.1)).adds
  have hE := eqNilBytes
  go_enter Try.func28, Try.ntmps28
  go_wp2_with (at_builtin; refine wpList_append_own _ rfl _ _ 28 rfl w.heap.size 5 i0 (.int .u8 0) 1 1 Try.underlying28 hi hz0 hz1 hz2 rfl (by decide) _ _ _ rfl hown ⟨b, off, none⟩ l.length c (l.map B) rfl ?c1 hcs (map_one l) ?c3 ?c4 ?c5 ?_)
  case c1 => simp
  case c3 => unfold maxLen; omega
  case c4 => omega
  case c5 => simp
  intro v' w' ho hg hv
  have H := Lib.hid hv
  clear hv hown hcs
  go_wp2
  go_ret
  obtain ⟨g, c', rfl⟩ := Own.form (l := l) ho H.out
  exact ⟨_, _, rfl, ho, ((Below.refl _ w).alloc (Nat.le_refl _) _).grown hg (by simp) (fun k hk => by cases hk; simp)⟩

theorem Try.prog_make (n : Nat) (hn : n ≤ 281474976710656) (w : World) : (Instr.makeSlice 28 (.int .i64 (n : Int)) (.int .i64 (n : Int))).run Try.prog w = .ok (.slice (some ⟨w.heap.size, 0, none⟩) n n) (w.alloc (.cells (madeCells #[.int .u8 0] n) 5)) := by
  obtain ⟨i0, hi, hz0, hz1, hz2⟩ := info_parts Try.infoU8
  have hr := run_make (P := Try.prog) w 28 5 i0 (.int .u8 0) Try.underlying28 hi hz0 .i64 .i64 n n (by omega) (by omega) (by rw [hz2]; omega) (by omega)
  simp only [Int.toNat_natCast, hz1, Nat.mul_one] at hr
  exact hr

/-- zeros: a row of its own; of nil 256 zeros. -/
theorem zeros_any (v : Value) (o : Option (List UInt8)) (w : World) (h : Byt w v o) (hc : ∀ l, o = some l → l.length ≤ 140737488351232) :
    Calls Try.prog 33 #[v] w fun e w' =>
      ∃ g c', e = .returned (.slice (some ⟨g, 0, none⟩) (o.getD (zs 256)).length c') ∧ Own w' w.heap.size (.slice (some ⟨g, 0, none⟩) (o.getD (zs 256)).length c') (o.getD (zs 256)) ∧ Below w.heap.size w w' := by
  have hE := eqNilBytes
  cases o with
  | none =>
    cases h
    have hM := Try.prog_make 256 (by omega)
    rw [show ((256 : Nat) : Int) = 256 from rfl] at hM
    go_enter Try.func33, Try.ntmps33
    go_wp2
    go_ret
    have h256 : ((none : Option (List UInt8)).getD (zs 256)).length = 256 := zs_len 256
    rw [h256]
    exact ⟨_, _, rfl, Own.made w 256 (by unfold maxLen; omega), (Below.refl _ _).alloc (Nat.le_refl _) _⟩
  | some l =>
    obtain ⟨b, c, rfl, ha⟩ := h.some_form
    have hl := hc l rfl
    clear hc h
    go_enter Try.func33, Try.ntmps33
    go_wp2_with (go_at_call 28; refine (clone_any b 0 l.length c l _ ha rfl hl).mono ?_; rintro e w' ⟨g, c', rfl, h1, h3⟩)
    go_ret
    exact ⟨_, _, rfl, h1, h3⟩
end Go.Proofs.Ytpfijfflfgfojaa
