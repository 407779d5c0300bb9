/-
  blockfs: Commit.
-/
import Derived.Test.YtomngfihaohgdaaDoorFs8
namespace Go.Proofs.YtomngfihaohgdaaDoor
set_option maxRecDepth 100000
open Go.RowKit

theorem may_empty (v d B cm : Nat) (br : Bool) (A : Option Addr) (c : Nat) (w : World) (h : VolB w v d B cm br) (hB : B ≤ 1000) :
    Calls Tryd.prog 34 #[.pointer (some ⟨v, 0, none⟩), .slice A 0 c] w fun e w' => e = .returned (.bool true) ∧ w = w' := by
  have t1 : ¬ (B : Int) < 0 := by omega
  have t2 : decide ((B : Int) < 0) = false := decide_eq_false t1
  obtain ⟨c0, c1, c2, c3⟩ := h.cells
  clear h
  go_enter Tryd.func34, Tryd.ntmps34
  go_wp2_with fail
  clear c0 c1 c2 c3 t1 t2
  obtain ⟨w0, hw0⟩ : ∃ w0, w0 = w := ⟨_, rfl⟩
  subst hw0
  go_loopw [20] (fun i wr => i = .int .i64 0 ∧ w0 = wr) (fun i _ => 0)
  case atStart => exact ⟨rfl, rfl⟩
  case round =>
    obtain ⟨rfl, rfl⟩ := hrel
    go_wp2_with fail
    go_ret
    exact ⟨rfl, rfl⟩
theorem commit_nil (A : Option Addr) (n c : Nat) (w : World) :
    Calls Tryd.prog 17 #[.pointer none, .slice A n c] w fun e w' => e = .returned (.int .i64 7) ∧ w = w' := by
  have h1 := may_nil A n c w
  go_enter Tryd.func17, Tryd.ntmps17
  go_wp2_with fail
  refine h1.mono ?_
  rintro e w' ⟨rfl, rfl⟩
  go_wp2_with fail
  go_ret
  exact ⟨rfl, rfl⟩
theorem commit_many (v d B cm : Nat) (br : Bool) (A : Option Addr) (n c : Nat) (w : World) (h : VolB w v d B cm br) (hn : B < n) :
    Calls Tryd.prog 17 #[.pointer (some ⟨v, 0, none⟩), .slice A n c] w fun e w' => e = .returned (.int .i64 7) ∧ w = w' := by
  have h1 := may_many v d B cm br A n c w h hn
  go_enter Tryd.func17, Tryd.ntmps17
  go_wp2_with fail
  refine h1.mono ?_
  rintro e w' ⟨rfl, rfl⟩
  go_wp2_with fail
  go_ret
  exact ⟨rfl, rfl⟩
theorem commit_empty (v d B cm : Nat) (br : Bool) (A : Option Addr) (c : Nat) (w : World) (h : VolB w v d B cm br) (hB : B ≤ 1000) :
    Calls Tryd.prog 17 #[.pointer (some ⟨v, 0, none⟩), .slice A 0 c] w fun e w' => e = .returned (.int .i64 0) ∧ w = w' := by
  have h1 := may_empty v d B cm br A c w h hB
  go_enter Tryd.func17, Tryd.ntmps17
  go_wp2_with fail
  refine h1.mono ?_
  rintro e w' ⟨rfl, rfl⟩
  go_wp2_with fail
  go_ret
  exact ⟨rfl, rfl⟩
theorem commit_bad (v d B cm : Nat) (br : Bool) (P c : Nat) (ps : List PutV) (w : World) (h : VolB w v d B cm br) (hP : PutsAt w P ps) (hB : B ≤ 1000) (hm : mayP B ps = false) :
    Calls Tryd.prog 17 #[.pointer (some ⟨v, 0, none⟩), .slice (some ⟨P, 0, none⟩) ps.length c] w fun e w' => e = .returned (.int .i64 7) ∧ Old w w' := by
  by_cases hn : ps.length ≤ B
  · have h1 := may_any v d B cm br P c ps w h hP hn hB
    rw [hm] at h1
    go_enter Tryd.func17, Tryd.ntmps17
    go_wp2_with fail
    refine h1.mono ?_
    rintro e w' ⟨rfl, hO⟩
    go_wp2_with fail
    go_ret
    exact ⟨rfl, hO⟩
  · refine (commit_many v d B cm br (some ⟨P, 0, none⟩) ps.length c w h (by omega)).mono ?_
    rintro e w' ⟨rfl, rfl⟩
    exact ⟨rfl, Old.refl _⟩
theorem commit_any (v d L B c k P cp : Nat) (ps : List PutV) (s : Dsk) (m : List (List UInt8)) (w : World) (hV : VolB w v d B c false) (hD : DkAt w d L s) (hK : KAt w) (hP : PutsAt w P ps)
    (hne : ∀ p ∈ ps, ∀ ad, p.A = some ad → ad.block ∉ [d, L]) (hm : mayP B ps = true) (hB : (s.n - 8) / 2 = B) (hn16 : 16 ≤ s.n) (hn2 : s.n ≤ 1000) (hc : c < 10000) (hf : FOk s k) (hk : k < 10000)
    (hml : m.length = B) (hside : ∀ i b, m[i]? = some b → Cl s (8 + c % 2 * B + i) b) (h0 : 0 < ps.length) :
    Calls Tryd.prog 17 #[.pointer (some ⟨v, 0, none⟩), .slice (some ⟨P, 0, none⟩) ps.length cp] w fun e w' =>
      e = .returned (.int .i64 (if (s.turnW headB c (after m (ps.map toPut))).1 = true then 0 else 48)) ∧ DkAt w' d L (s.turnW headB c (after m (ps.map toPut))).2 ∧
      VolB w' v d B (if (s.turnW headB c (after m (ps.map toPut))).1 = true then c + 1 else c) (!(s.turnW headB c (after m (ps.map toPut))).1) ∧ Turn [d, L, v] w w' := by
  have hnB : ps.length ≤ B := by
    unfold mayP at hm
    rw [Bool.and_eq_true, decide_eq_true_iff] at hm
    exact hm.1
  have h1 := may_any v d B c false P cp ps w hV hP hnB (by omega)
  rw [hm] at h1
  have hvd : v ∉ [d, L] := by
    obtain ⟨⟨cs, h1⟩, cs2, h2⟩ := hD.typed
    simp
    exact ⟨Blk.ne_ hV h1 (by decide), Blk.ne_ hV h2 (by decide)⟩
  have h2 : ∀ W, Old w W → Calls Tryd.prog 35 #[.pointer (some ⟨v, 0, none⟩), .slice (some ⟨P, 0, none⟩) ps.length cp] W fun e w' =>
      e = .returned (.bool (s.turnW headB c (after m (ps.map toPut))).1) ∧ DkAt w' d L (s.turnW headB c (after m (ps.map toPut))).2 ∧ Turn [d, L] W w' := fun W hO =>
    turn_any v d L B c k P cp false ps s m W (Blk.below hV hO) (hD.below hO) (hK.below hO) (hP.below hO) hne hm hB hn16 hn2 hc hf hk hml hside
  obtain ⟨q, hq⟩ : ∃ q, s.turnW headB c (after m (ps.map toPut)) = q := ⟨_, rfl⟩
  rw [hq] at h2 ⊢
  obtain ⟨N, hN⟩ : ∃ N, ps.length = N := ⟨_, rfl⟩
  rw [hN] at h1 h2 h0 ⊢
  have hN0 : ((N : Int) == 0) = false := by simp; omega
  have hN1 : ¬ (N : Int) = 0 := by omega
  obtain ⟨ok, sq⟩ := q
  simp only at h2 ⊢
  have H := Lib.hid (And.intro h2 (And.intro hV hvd))
  clear h2 hV hD hK hP hne hm hB hn16 hn2 hf hml hside hq hN hvd hnB
  go_enter Tryd.func17, Tryd.ntmps17
  go_wp2_with fail
  refine h1.mono ?_
  rintro e w1 ⟨rfl, hO⟩
  have hcs := VolB.cells (Blk.below H.out.2.1 hO)
  clear h1
  go_wp2_with fail
  refine (H.out.1 w1 hO).mono ?_
  rintro e w2 ⟨rfl, hD2, hT2⟩
  have hV2 : VolB w2 v d B c false := (Blk.below H.out.2.1 hO).turn hT2 H.out.2.2
  have hcs2 := VolB.cells hV2
  have hf2 := fun j => Blk.frozen hV2 j
  have HE := Lib.hid (And.intro hD2 (And.intro ((Turn.of_below [d, L] hO).trans hT2 (fun x hx => .inl hx)) hV2))
  clear hcs hD2 hT2 hV2
  have fin : ∀ (z : Value) (j : Nat), Turn [d, L, v] w (w2.setCell ⟨v, j, none⟩ z) ∧ DkAt (w2.setCell ⟨v, j, none⟩ z) d L sq := fun z j => by
    have ht : Turn [v] w2 (w2.setCell ⟨v, j, none⟩ z) := (Turn.refl _ _).setCell (.inl (by simp)) _
    obtain ⟨⟨cs, b1⟩, cs2, b2⟩ := HE.out.1.typed
    refine ⟨(HE.out.2.1.more (by simp)).trans (ht.more (S' := [d, L, v]) (by simp)) (fun x hx => .inl hx), HE.out.1.turn' ht (by simp; exact fun e => H.out.2.2 (by simp [e])) (by simp; exact fun e => H.out.2.2 (by simp [e])) (fun t h => by simp at h; subst h; exact Blk.noRow HE.out.2.2 (by decide))⟩
  have HF := Lib.hid fin
  clear fin
  cases ok with
  | false =>
    go_wp2_with fail
    go_ret
    refine ⟨rfl, (HF.out _ 3).2, ?_, (HF.out _ 3).1⟩
    have := Blk.set_ HE.out.2.2 3 (.bool true)
    simpa [VolB] using this
  | true =>
    have g1 : IntKind.i64.wrap ((c : Int) + 1) = (c : Int) + 1 := IntWalk.i64_in _ (by omega)
    go_wp2_with fail
    go_ret
    refine ⟨rfl, (HF.out _ 2).2, ?_, (HF.out _ 2).1⟩
    have := Blk.set_ HE.out.2.2 2 (.int .i64 ((c : Int) + 1))
    simpa [VolB] using this
end Go.Proofs.YtomngfihaohgdaaDoor
