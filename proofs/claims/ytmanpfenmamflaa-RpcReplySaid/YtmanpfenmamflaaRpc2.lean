/-
  Frames plainly (pieces of bytes, or none); the writer's bytes.
-/
import Derived.Test.YtmanpfenmamflaaRpc1
import Derived.Test.YtmanpfenmamflaaEmptyE
namespace Go.Proofs.Ytmanpfenmamflaa
open Go.RowKit

/-- Bytes behind bytes; none if one is none. -/
def ocat (s t : Option (List UInt8)) : Option (List UInt8) := s.bind fun a => t.map (a ++ ·)
theorem ocat_none (t : Option (List UInt8)) : ocat none t = none := rfl
theorem ocat_none2 (s : Option (List UInt8)) : ocat s none = none := by cases s <;> rfl
theorem ocat_some (a b : List UInt8) : ocat (some a) (some b) = some (a ++ b) := rfl
theorem ocat_assoc (s t u : Option (List UInt8)) : ocat (ocat s t) u = ocat s (ocat t u) := by
  cases s <;> cases t <;> cases u <;> simp [ocat]
theorem ocat_nil (s : Option (List UInt8)) : ocat s (some []) = s := by cases s <;> simp [ocat]
theorem nil_ocat (s : Option (List UInt8)) : ocat (some []) s = s := by cases s <;> simp [ocat]
/-- A number; bytes behind their length; an attribute; attributes. -/
def pnum (n : Int) (size : Nat) (most : Int) : Option (List UInt8) := if n < 0 ∨ most < n then none else some (num n.toNat size)
def pbytes (x : List UInt8) (size : Nat) (most : Int) : Option (List UInt8) := ocat (pnum x.length size most) (some x)
def pattr (a : Int × List UInt8) : Option (List UInt8) := ocat (pnum a.1 2 65535) (pbytes a.2 2 16384)
def pcat : List (Option (List UInt8)) → Option (List UInt8)
  | [] => some []
  | s :: l => ocat s (pcat l)
theorem pcat_append (a b : List (Option (List UInt8))) : pcat (a ++ b) = ocat (pcat a) (pcat b) := by
  induction a with
  | nil => rw [List.nil_append]; exact (nil_ocat _).symm
  | cons x a ih => rw [List.cons_append, pcat, pcat, ih, ocat_assoc]
def pattrs (l : List (Int × List UInt8)) : Option (List UInt8) := ocat (pnum l.length 1 64) (pcat (l.map pattr))
/-- The writer at p has written s, none if something may not be; no more than K bytes; it lies in the blocks S. -/
def WrO (W : World) (p : Nat) (S : List Nat) (s : Option (List UInt8)) (K : Nat) : Prop := ∃ l bad, Wr W p S l bad ∧ l.length ≤ K ∧ s = (if bad = true then none else some l)
theorem WrO.below {W W' : World} {p K : Nat} {S : List Nat} {s : Option (List UInt8)} (h : WrO W p S s K) (hb : Below W.heap.size W W') : WrO W' p S s K := by
  obtain ⟨l, bad, h1, h2⟩ := h
  exact ⟨l, bad, h1.below hb, h2⟩
theorem WrO.in_ {W : World} {p K : Nat} {S : List Nat} {s : Option (List UInt8)} (h : WrO W p S s K) : ∀ x ∈ S, p ≤ x ∧ x < W.heap.size := by
  obtain ⟨l, bad, h1, h2⟩ := h
  exact h1.in_
theorem WrO.lt {W : World} {p K : Nat} {S : List Nat} {s : Option (List UInt8)} (h : WrO W p S s K) : p < W.heap.size := by
  obtain ⟨l, bad, h1, h2⟩ := h
  exact h1.lt
theorem WrO.more {W : World} {p K K' : Nat} {S : List Nat} {s : Option (List UInt8)} (h : WrO W p S s K) (hk : K ≤ K') : WrO W p S s K' := by
  obtain ⟨l, bad, h1, h2, h3⟩ := h
  exact ⟨l, bad, h1, by omega, h3⟩
/-- From w to w' the writer has come to s; only its blocks have turned. -/
structure Wrote (p : Nat) (w w' : World) (S : List Nat) (s : Option (List UInt8)) (K : Nat) (S' : List Nat) : Prop where
  wr : WrO w' p S' s K
  turn : Turn S w w'
  in_ : InOr S S' w.heap.size
theorem Wrote.refl {p K : Nat} {w : World} {S : List Nat} {s : Option (List UInt8)} (h : WrO w p S s K) : Wrote p w w S s K S := ⟨h, Turn.refl _ _, fun _ hx => .inl hx⟩
theorem Wrote.trans {p K K' : Nat} {w w' w'' : World} {S S' S'' : List Nat} {s s' : Option (List UInt8)} (h : Wrote p w w' S s K S') (h' : Wrote p w' w'' S' s' K' S'') : Wrote p w w'' S s' K' S'' :=
  ⟨h'.wr, h.turn.trans h'.turn h.in_, fun x hx => (h'.in_ x hx).elim (h.in_ x) (fun hg => .inr (Nat.le_trans h.turn.size hg))⟩
theorem Wrote.more {p K K' : Nat} {w w' : World} {S S' : List Nat} {s : Option (List UInt8)} (h : Wrote p w w' S s K S') (hk : K ≤ K') : Wrote p w w' S s K' S' := ⟨h.wr.more hk, h.turn, h.in_⟩
theorem Wrote.alloc {p K : Nat} {w w' : World} {S S' : List Nat} {s : Option (List UInt8)} (h : Wrote p w w' S s K S') (o : Obj) : Wrote p w (w'.alloc o) S s K S' :=
  ⟨h.wr.below ((Below.refl _ _).alloc (Nat.le_refl _) o), h.turn.alloc o, h.in_⟩
theorem Wrote.below {p K B : Nat} {w w' : World} {S S' : List Nat} {s : Option (List UInt8)} (h : Wrote p w w' S s K S') (hS : ∀ x ∈ S, p ≤ x) (hB : B ≤ p) (hw : B ≤ w.heap.size) : Below B w w' :=
  below_turn (Below.refl _ _) h.turn (fun t ht => by have := hS t ht; omega) hw
theorem put_o (p : Nat) (n most : Int) (size : Nat) (S : List Nat) (s : Option (List UInt8)) (K : Nat) (w : World) (h : WrO w p S s K) (hs : size = 1 ∨ size = 2 ∨ size = 4) (hmost : most ≤ 2147483647) (hK : K ≤ 1000000000000) :
    Calls Try.prog 22 #[.pointer (some ⟨p, 0, none⟩), .int .i64 n, .int .i64 size, .int .i64 most] w fun e w' => e = .returned (.tuple #[]) ∧ ∃ S', Wrote p w w' S (ocat s (pnum n size most)) (K + 8) S' := by
  obtain ⟨l, bad, h1, h2, rfl⟩ := h
  refine (put_any p n most size S l bad w h1 hs hmost (by omega)).mono ?_
  rintro e w' ⟨rfl, S', hw, hT, hI⟩
  refine ⟨rfl, S', ⟨⟨_, _, hw, ?_, ?_⟩, hT, hI⟩⟩
  · unfold putL
    split
    · omega
    · rw [List.length_append, num_len _ _ (by omega)]; omega
  · unfold putB putL pnum
    by_cases hc : n < 0 ∨ most < n
    · rw [if_pos hc, if_pos hc, if_pos rfl, ocat_none2]
    · rw [if_neg hc, if_neg hc, if_neg hc]
      cases bad
      · rfl
      · rfl
/-- A row that lies below base, or has no room. -/
def RdB (W : World) (base : Nat) (A : Option Addr) (m c : Nat) (l : List UInt8) : Prop := (Rd W A m c l ∧ ∀ ad, A = some ad → ad.block < base) ∨ (m = 0 ∧ c = 0 ∧ l = [])
theorem RdB.old {W W' : World} {base : Nat} {A : Option Addr} {m c : Nat} {l : List UInt8} (h : RdB W base A m c l) (hb : Below base W W') : RdB W' base A m c l := by
  rcases h with ⟨h, h1⟩ | h
  · exact .inl ⟨h.keep hb.size (fun ad ha => hb.block _ (h1 ad ha)), h1⟩
  · exact .inr h
theorem RdB.mono {W : World} {base base' : Nat} {A : Option Addr} {m c : Nat} {l : List UInt8} (h : RdB W base A m c l) (hb : base ≤ base') : RdB W base' A m c l := by
  rcases h with ⟨h, h1⟩ | h
  · exact .inl ⟨h, fun ad ha => by have := h1 ad ha; omega⟩
  · exact .inr h
theorem RdB.e {W : World} {base : Nat} {A : Option Addr} {m c : Nat} {l : List UInt8} (h : RdB W base A m c l) : RdE W A m c l := h.imp And.left id
theorem RdB.len {W : World} {base : Nat} {A : Option Addr} {m c : Nat} {l : List UInt8} (h : RdB W base A m c l) : m = l.length := h.e.len
theorem RdB.ofRd {W : World} {A : Option Addr} {m c : Nat} {l : List UInt8} (h : Rd W A m c l) : RdB W W.heap.size A m c l := .inl ⟨h, fun ad ha => h.lt ad ha⟩
theorem RdB.nil (W : World) (base : Nat) : RdB W base none 0 0 [] := .inr ⟨rfl, rfl, rfl⟩
theorem toStr_zero (w : World) (a : Addr) : (convert 22 9 (.slice (some a) 0 0)).run Try.prog w = .ok (.string ⟨([] : List UInt8).toArray⟩) w := by
  unfold convert
  simp [run_underlying Try.underlying22, run_underlying Try.underlying5, run_underlying Try.underlying9, Conv.bytesToString, loadCells, loadCellsFrom]
  rfl
theorem RdB.str {W : World} {base : Nat} {A : Option Addr} {m c : Nat} {l : List UInt8} (h : RdB W base A m c l) : (convert 22 9 (.slice A m c)).run Try.prog W = .ok (.string ⟨l.toArray⟩) W := by
  rcases h with ⟨h, _⟩ | ⟨rfl, rfl, rfl⟩
  · exact h.str
  · cases A
    · exact toStr_nil _ _ _
    · exact toStr_zero _ _
set_option maxHeartbeats 1000000 in
theorem wbytes_o (p : Nat) (A : Option Addr) (m c : Nat) (x : List UInt8) (most : Int) (size : Nat) (S : List Nat) (s : Option (List UInt8)) (K : Nat) (w : World) (h : WrO w p S s K) (hx : RdB w p A m c x) (hs : size = 1 ∨ size = 2 ∨ size = 4) (hmost : most ≤ 65536) (hK : K ≤ 1000000000000) :
    Calls Try.prog 23 #[.pointer (some ⟨p, 0, none⟩), .slice A m c, .int .i64 size, .int .i64 most] w fun e w' => e = .returned (.tuple #[]) ∧ ∃ S', Wrote p w w' S (ocat s (pbytes x size most)) (K + 70000) S' := by
  have hm := hx.len
  have H := Lib.hid (And.intro h (And.intro hx hm))
  have HS := Lib.hid (And.intro hs (And.intro hmost hK))
  clear h hx hm hs hmost hK
  go_enter Try.func23, Try.ntmps23
  go_wp2_with fail
  refine (put_o p m most size S s K w H.out.1 HS.out.1 (by have := HS.out.2.1; omega) HS.out.2.2).mono ?_
  rintro e w1 ⟨rfl, S1, hW⟩
  have hb1 : Below p w w1 := hW.below (fun x hx => (H.out.1.in_ x hx).1) (Nat.le_refl _) (Nat.le_of_lt H.out.1.lt)
  obtain ⟨l, bad, ⟨A1, n1, c1, hb, ho, hS1⟩, hl, hsl⟩ := hW.wr
  have hx1 := H.out.2.1.old hb1
  have hbad : w1.cell? ⟨p, 1, none⟩ = some (.bool bad) := hb.cell 1
  have H1 := Lib.hid (And.intro hb (And.intro ho (And.intro hl (And.intro hsl (And.intro hb1 hx1)))))
  have HW := Lib.hid (And.intro hW hS1)
  clear hb ho hl hsl hb1 hx1 hW hS1
  cases bad
  · have hle : ((m : Int) ≤ most) := by
      have := H1.out.2.2.2.1
      unfold pnum at this
      by_cases hc : (m : Int) < 0 ∨ most < (m : Int)
      · rw [if_pos hc, ocat_none2] at this; cases this
      · omega
    have hml : x.length ≤ 65536 := by have := H.out.2.2; have := HS.out.2.1; omega
    have HL := Lib.hid hml
    have c0 : w1.cell? ⟨p, 0, none⟩ = some (.slice A1 n1 c1) := H1.out.1.cell 0
    clear hle hml
    go_wp2_with (at_builtin; go_must (refine wp_app2E (.tmp 23) (.tmp 24) (p + 1) (.slice A1 n1 c1) l H1.out.2.1 (by have := H1.out.1.lt; omega) A m c x H1.out.2.2.2.2.2.e (by have := H1.out.2.2.1; have := HL.out; have := HS.out.2.2; omega) rfl rfl rfl rfl ?_); intro A2 n2 c2 w2 hi2 hG; have H2 := Lib.hid hG; clear hG; have hB2 : Blk w2 p 58 #[.slice A1 n1 c1, .bool false] := Blk.keep H1.out.1 (H2.out.below.block _ (by omega)); have f2 := hB2.frozen 0; have k2 : w2.cell? ⟨p, 0, none⟩ = some (.slice A1 n1 c1) := hB2.cell 0; have HB2 := Lib.hid hB2; clear hB2)
    go_end0
    have hT := (Turn.refl [p] w2).setCell (p := ⟨p, 0, none⟩) (.inl (by simp)) (.slice A2 n2 c2)
    refine ⟨rfl, _, HW.out.1.trans ⟨⟨l ++ x, false, ⟨A2, n2, c2, HB2.out.set_ 0 _, H2.out.own.turn hT (fun g hg hm => ?_), rfl⟩, ?_, ?_⟩, ?_, ?_⟩⟩
    · have := (H2.out.own.lt hg).1
      simp at hm
      omega
    · have := H1.out.2.2.1
      have := HL.out
      rw [List.length_append]; omega
    · unfold pbytes
      rw [← ocat_assoc, ← H.out.2.2, H1.out.2.2.2.1]
      rfl
    · rw [HW.out.2]
      exact ((Turn.refl _ w1).grown H2.out.grown (fun k hk => .inl (by rw [hk]; simp))).trans hT (fun x hx => .inl (by simp at hx; rw [hx]; simp))
    · intro x hx
      rw [HW.out.2]
      rcases List.mem_cons.1 hx with e | e
      · exact .inl (by rw [e]; simp)
      · have hx' : (Value.slice A2 n2 c2).ownBlock = some x := by simpa using e
        rcases H2.out.at_ with e | e
        · exact .inl (List.mem_cons_of_mem _ (by rw [← e]; simpa using hx'))
        · right; rw [e] at hx'; cases hx'; exact Nat.le_refl _
  · go_wp2_with fail
    go_end0
    refine ⟨rfl, S1, ⟨⟨l, true, ⟨A1, n1, c1, H1.out.1, H1.out.2.1, HW.out.2⟩, by have := H1.out.2.2.1; omega, ?_⟩, HW.out.1.turn, HW.out.1.in_⟩⟩
    unfold pbytes
    rw [← ocat_assoc, ← H.out.2.2, H1.out.2.2.2.1]
    rfl
end Go.Proofs.Ytmanpfenmamflaa
