/-
  What the reference's disk is in memory; contracts of its small functions.
-/
import Derived.Test.YtpfijfflfgfojaaDisk1
import Derived.Deep.RegionHeld3
namespace Go.Proofs.Ytpfijfflfgfojaa
open Go.RowKit

structure RDsk where
  safe : List (List UInt8)
  now : List (List UInt8)
  wet : List Bool
  fuse : Int
  count : Nat

/-- The values are rows of bytes. -/
def ValsOk (w : World) (vs : List Value) (ls : List (List UInt8)) : Prop :=
  vs.length = ls.length ∧ ∀ (i : Nat) (v : Value) (l : List UInt8), vs[i]? = some v → ls[i]? = some l → Byt w v (some l) ∧ l.length = 256
theorem ValsOk.turn {w w' : World} {S : List Nat} {vs : List Value} {ls : List (List UInt8)} (h : ValsOk w vs ls) (ht : Turn S w w') (hS : ∀ g ∈ S, NoRow w g) : ValsOk w' vs ls :=
  ⟨h.1, fun i v l hv hl => let ⟨a, b⟩ := h.2 i v l hv hl; ⟨a.turn ht (fun g hg hm => a.notin (hS g hm) hg), b⟩⟩
theorem ValsOk.below {w w' : World} {vs : List Value} {ls : List (List UInt8)} (h : ValsOk w vs ls) (ht : Below w.heap.size w w') : ValsOk w' vs ls :=
  ⟨h.1, fun i v l hv hl => let ⟨a, b⟩ := h.2 i v l hv hl; ⟨a.below ht, b⟩⟩
theorem ValsOk.set_ {w : World} {vs : List Value} {ls : List (List UInt8)} (h : ValsOk w vs ls) (i : Nat) {v : Value} {l : List UInt8} (hv : Byt w v (some l)) (hl : l.length = 256) : ValsOk w (vs.set i v) (ls.set i l) := by
  refine ⟨by simp [h.1], fun j u k hu hk => ?_⟩
  rw [List.getElem?_set] at hu hk
  by_cases hj : i = j
  · subst hj
    by_cases hi : i < vs.length
    · rw [if_pos rfl, if_pos hi] at hu
      rw [if_pos rfl, if_pos (by rw [← h.1]; exact hi)] at hk
      cases hu; cases hk
      exact ⟨hv, hl⟩
    · rw [if_pos rfl, if_neg hi] at hu; cases hu
  · rw [if_neg hj] at hu hk
    exact h.2 j u k hu hk
theorem ValsOk.snoc {w : World} {vs : List Value} {ls : List (List UInt8)} (h : ValsOk w vs ls) {v : Value} {l : List UInt8} (hv : Byt w v (some l)) (hl : l.length = 256) : ValsOk w (vs ++ [v]) (ls ++ [l]) := by
  refine ⟨by simp [h.1], fun j u k hu hk => ?_⟩
  rcases Nat.lt_or_ge j vs.length with hj | hj
  · rw [List.getElem?_append_left hj] at hu
    rw [List.getElem?_append_left (by rw [← h.1]; exact hj)] at hk
    exact h.2 j u k hu hk
  · rw [List.getElem?_append_right hj] at hu
    rw [List.getElem?_append_right (by rw [← h.1]; exact hj), ← h.1] at hk
    cases hq : j - vs.length with
    | zero => rw [hq] at hu hk; simp at hu hk; subst hu hk; exact ⟨hv, hl⟩
    | succ q => rw [hq] at hu; simp at hu
theorem ValsOk.at_ {w : World} {vs : List Value} {ls : List (List UInt8)} (h : ValsOk w vs ls) {i : Nat} (hi : i < ls.length) :
    ∃ g c, vs[i]? = some (.slice (some ⟨g, 0, none⟩) 256 c) ∧ Byt w (.slice (some ⟨g, 0, none⟩) 256 c) (some ls[i]) ∧ ls[i].length = 256 := by
  obtain ⟨v, hv⟩ : ∃ v, vs[i]? = some v := ⟨_, List.getElem?_eq_getElem (by rw [h.1]; exact hi)⟩
  obtain ⟨a, b⟩ := h.2 i v _ hv (List.getElem?_eq_getElem hi)
  obtain ⟨g, c, rfl, _⟩ := a.some_form
  rw [b] at hv a
  exact ⟨g, c, hv, a, b⟩

theorem ValsOk.form {w : World} {vs : List Value} {ls : List (List UInt8)} (h : ValsOk w vs ls) {i : Nat} (hi : i < ls.length) : ∃ g c, vs[i]? = some (.slice (some ⟨g, 0, none⟩) 256 c) :=
  let ⟨g, c, a, _⟩ := h.at_ hi; ⟨g, c, a⟩

/-- Where the reference's disk lies. -/
structure RPl where
  d : Nat
  gS : Nat
  gN : Nat
  gW : Nat
  cS : Nat
  cN : Nat
  vs : List Value
  vn : List Value

structure RefAt (w : World) (p : RPl) (s : RDsk) : Prop where
  head : Blk w p.d 38 #[.slice (some ⟨p.gS, 0, none⟩) s.now.length p.cS, .slice (some ⟨p.gN, 0, none⟩) s.now.length p.cN, .slice (some ⟨p.gW, 0, none⟩) s.now.length s.now.length, .int .i64 s.fuse, .int .i64 s.count]
  rowS : Row w p.gS 28 s.now.length p.cS p.vs
  rowN : Row w p.gN 28 s.now.length p.cN p.vn
  rowW : Blk w p.gW 4 (s.wet.map Value.bool).toArray
  apart : p.gS ≠ p.gN
  safeOk : ValsOk w p.vs s.safe
  nowOk : ValsOk w p.vn s.now
  lenS : s.safe.length = s.now.length
  lenW : s.wet.length = s.now.length
  pos : 0 < s.now.length
  most : s.now.length ≤ 65536

theorem RefAt.below {w w' : World} {p : RPl} {s : RDsk} (h : RefAt w p s) (ht : Below w.heap.size w w') : RefAt w' p s :=
  ⟨h.head.below ht, h.rowS.below ht, h.rowN.below ht, h.rowW.below ht, h.apart, h.safeOk.below ht, h.nowOk.below ht, h.lenS, h.lenW, h.pos, h.most⟩
theorem RefAt.turn {w w' : World} {p : RPl} {s : RDsk} (h : RefAt w p s) {S : List Nat} (ht : Turn S w w') (h1 : p.d ∉ S) (h2 : p.gS ∉ S) (h3 : p.gN ∉ S) (h4 : p.gW ∉ S) (hS : ∀ g ∈ S, NoRow w g) : RefAt w' p s :=
  ⟨h.head.turn ht h1, h.rowS.turn ht h2, h.rowN.turn ht h3, h.rowW.turn ht h4, h.apart, h.safeOk.turn ht hS, h.nowOk.turn ht hS, h.lenS, h.lenW, h.pos, h.most⟩
theorem RefAt.drew {w : World} {p : RPl} {s : RDsk} (h : RefAt w p s) : RefAt w.drew p s := h.below ((Below.refl _ w).drew)
/-- The blocks differ by their types. -/
theorem RefAt.ne {w : World} {p : RPl} {s : RDsk} (h : RefAt w p s) : p.d ≠ p.gS ∧ p.d ≠ p.gN ∧ p.d ≠ p.gW ∧ p.gS ≠ p.gW ∧ p.gN ≠ p.gW :=
  ⟨(h.rowS.ne_ h.head (by decide)).symm, (h.rowN.ne_ h.head (by decide)).symm, h.head.ne_ h.rowW (by decide), h.rowS.ne_ h.rowW (by decide), h.rowN.ne_ h.rowW (by decide)⟩
theorem RefAt.noRow {w : World} {p : RPl} {s : RDsk} (h : RefAt w p s) : NoRow w p.d ∧ NoRow w p.gS ∧ NoRow w p.gN ∧ NoRow w p.gW :=
  ⟨h.head.noRow (by decide), h.rowS.noRow (by decide), h.rowN.noRow (by decide), h.rowW.noRow (by decide)⟩

/-- The head alone has turned. -/
theorem RefAt.headed {w w' : World} {p : RPl} {s s' : RDsk} (h : RefAt w p s) (ht : Turn [p.d] w w')
    (hb : Blk w' p.d 38 #[.slice (some ⟨p.gS, 0, none⟩) s.now.length p.cS, .slice (some ⟨p.gN, 0, none⟩) s.now.length p.cN, .slice (some ⟨p.gW, 0, none⟩) s.now.length s.now.length, .int .i64 s'.fuse, .int .i64 s'.count])
    (h1 : s'.safe = s.safe) (h2 : s'.now = s.now) (h3 : s'.wet = s.wet) : RefAt w' p s' := by
  obtain ⟨n1, n2, n3, n4, n5⟩ := h.ne
  have hS : ∀ g ∈ [p.d], NoRow w g := by intro g hg; simp at hg; subst hg; exact h.noRow.1
  refine ⟨by rw [h2]; exact hb, by rw [h2]; exact h.rowS.turn ht (by simpa using n1.symm), by rw [h2]; exact h.rowN.turn ht (by simpa using n2.symm), by rw [h3]; exact h.rowW.turn ht (by simpa using n3.symm), h.apart,
    by rw [h1]; exact h.safeOk.turn ht hS, by rw [h2]; exact h.nowOk.turn ht hS, by rw [h1, h2]; exact h.lenS, by rw [h2, h3]; exact h.lenW, by rw [h2]; exact h.pos, by rw [h2]; exact h.most⟩

def RDsk.dead (s : RDsk) : Bool := s.fuse == 0
theorem rdead_any (p : RPl) (s : RDsk) (w : World) (h : RefAt w p s) :
    Calls Try.prog 30 #[.pointer (some ⟨p.d, 0, none⟩)] w fun e w' => e = .returned (.bool s.dead) ∧ w = w' := by
  have h0 := h.head.cell 3
  simp at h0
  clear h
  go_enter Try.func30, Try.ntmps30
  go_wp2
  go_ret
  exact ⟨rfl, rfl⟩

def RDsk.step (s : RDsk) : RDsk := { s with count := s.count + 1, fuse := if 0 < s.fuse then s.fuse - 1 else s.fuse }
theorem rstep_any (p : RPl) (s : RDsk) (w : World) (h : RefAt w p s) (hc : s.count < 1000000) (hf : s.fuse ≤ 9223372036854775807) :
    Calls Try.prog 31 #[.pointer (some ⟨p.d, 0, none⟩)] w fun e w' => e = .returned (.tuple #[]) ∧ RefAt w' p s.step ∧ Turn [p.d] w w' := by
  have h3 := h.head.cell 3
  have h4 := h.head.cell 4
  have f3 := h.head.frozen 3
  have f4 := h.head.frozen 4
  simp at h3 h4
  have H := Lib.hid h
  clear h
  rcases Int.lt_or_le 0 s.fuse with h0 | h0
  · go_enter Try.func31, Try.ntmps31
    go_wp2
    go_end0
    have ht : Turn [p.d] w ((w.setCell ⟨p.d, 4, none⟩ (.int .i64 (s.count + 1))).setCell ⟨p.d, 3, none⟩ (.int .i64 (s.fuse - 1))) := ((Turn.refl _ _).setCell (.inl (by simp)) _).setCell (.inl (by simp)) _
    refine ⟨rfl, H.out.headed ht ?_ rfl rfl rfl, ht⟩
    have := (H.out.head.set_ 4 (.int .i64 (s.count + 1))).set_ 3 (.int .i64 (s.fuse - 1))
    simpa [RDsk.step, h0] using this
  · have h0' : ¬ (0 < s.fuse) := by omega
    go_enter Try.func31, Try.ntmps31
    go_wp2
    go_end0
    have ht : Turn [p.d] w (w.setCell ⟨p.d, 4, none⟩ (.int .i64 (s.count + 1))) := (Turn.refl _ _).setCell (.inl (by simp)) _
    refine ⟨rfl, H.out.headed ht ?_ rfl rfl rfl, ht⟩
    have := H.out.head.set_ 4 (.int .i64 (s.count + 1))
    simpa [RDsk.step, show ¬ (0 < s.fuse) from by omega] using this

def RDsk.setFuse (s : RDsk) (n : Int) : RDsk := if s.dead then s else { s with fuse := if n < 0 then 0 else n }
theorem rfuse_any (p : RPl) (s : RDsk) (n : Int) (w : World) (h : RefAt w p s) :
    Calls Try.prog 14 #[.pointer (some ⟨p.d, 0, none⟩), .int .i64 n] w fun e w' => e = .returned (.tuple #[]) ∧ RefAt w' p (s.setFuse n) ∧ Turn [p.d] w w' := by
  have h3 := h.head.cell 3
  have f3 := h.head.frozen 3
  simp at h3
  have hD := rdead_any p s w h
  have H := Lib.hid h
  clear h
  cases hf : s.dead with
  | true =>
    rw [hf] at hD
    have HF := Lib.hid hf
    clear hf
    go_enter Try.func14, Try.ntmps14
    go_wp2_with (go_at_call 30; (with_reducible refine hD.mono ?_); rintro e w' ⟨rfl, rfl⟩)
    refine bodyPost_ret (results_none rfl _ _ _) rfl ?_
    exact ⟨rfl, by simpa [RDsk.setFuse, HF.out] using H.out, Turn.refl _ _⟩
  | false =>
    rw [hf] at hD
    have HF := Lib.hid hf
    clear hf
    rcases Int.lt_or_le n 0 with h0 | h0
    · go_enter Try.func14, Try.ntmps14
      go_wp2_with (go_at_call 30; (with_reducible refine hD.mono ?_); rintro e w' ⟨rfl, rfl⟩)
      go_end0
      have ht : Turn [p.d] w (w.setCell ⟨p.d, 3, none⟩ (.int .i64 0)) := (Turn.refl _ _).setCell (.inl (by simp)) _
      refine ⟨rfl, H.out.headed ht ?_ ?_ ?_ ?_, ht⟩
      · have := H.out.head.set_ 3 (.int .i64 0)
        simpa [RDsk.setFuse, HF.out, h0] using this
      all_goals simp [RDsk.setFuse, HF.out]
    · have h0' : ¬ (n < 0) := by omega
      go_enter Try.func14, Try.ntmps14
      go_wp2_with (go_at_call 30; (with_reducible refine hD.mono ?_); rintro e w' ⟨rfl, rfl⟩)
      go_end0
      have ht : Turn [p.d] w (w.setCell ⟨p.d, 3, none⟩ (.int .i64 n)) := (Turn.refl _ _).setCell (.inl (by simp)) _
      refine ⟨rfl, H.out.headed ht ?_ ?_ ?_ ?_, ht⟩
      · have := H.out.head.set_ 3 (.int .i64 n)
        simpa [RDsk.setFuse, HF.out, show ¬ (n < 0) from by omega] using this
      all_goals simp [RDsk.setFuse, HF.out]
end Go.Proofs.Ytpfijfflfgfojaa
