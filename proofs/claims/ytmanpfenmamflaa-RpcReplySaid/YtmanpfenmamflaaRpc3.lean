/-
  The writer's attributes and its frame.
-/
import Derived.Test.YtmanpfenmamflaaRpc2
namespace Go.Proofs.Ytmanpfenmamflaa
open Go.RowKit

/-- Attributes that lie below base. -/
def AtsAt (W : World) (base : Nat) (A : Option Addr) (m : Nat) (l : List (Int × List UInt8)) : Prop :=
  l.length = m ∧ (m = 0 ∨ ∃ b off, A = some ⟨b, off, none⟩ ∧ b < base ∧ b < W.heap.size ∧ ∀ (j : Nat) (t : Int) (x : List UInt8), l[j]? = some (t, x) → W.cell? ⟨b, off + j * 2, none⟩ = some (.int .i64 t) ∧ ∃ Aj mj cj, W.cell? ⟨b, off + j * 2 + 1, none⟩ = some (.slice Aj mj cj) ∧ RdB W base Aj mj cj x)
theorem AtsAt.old {W W' : World} {base : Nat} {A : Option Addr} {m : Nat} {l : List (Int × List UInt8)} (h : AtsAt W base A m l) (hb : Below base W W') : AtsAt W' base A m l := by
  obtain ⟨h1, h2 | ⟨b, off, h2, h3, h3', h4⟩⟩ := h
  · exact ⟨h1, .inl h2⟩
  · refine ⟨h1, .inr ⟨b, off, h2, h3, Nat.lt_of_lt_of_le h3' hb.size, fun j t x hj => ?_⟩⟩
    obtain ⟨k1, Aj, mj, cj, k2, k3⟩ := h4 j t x hj
    exact ⟨(hb.cell (p := ⟨b, off + j * 2, none⟩) h3).trans k1, Aj, mj, cj, (hb.cell (p := ⟨b, off + j * 2 + 1, none⟩) h3).trans k2, k3.old hb⟩
theorem AtsAt.mono {W : World} {base base' : Nat} {A : Option Addr} {m : Nat} {l : List (Int × List UInt8)} (h : AtsAt W base A m l) (hb : base ≤ base') : AtsAt W base' A m l := by
  obtain ⟨h1, h2 | ⟨b, off, h2, h3, h3', h4⟩⟩ := h
  · exact ⟨h1, .inl h2⟩
  · refine ⟨h1, .inr ⟨b, off, h2, by omega, h3', fun j t x hj => ?_⟩⟩
    obtain ⟨k1, Aj, mj, cj, k2, k3⟩ := h4 j t x hj
    exact ⟨k1, Aj, mj, cj, k2, k3.mono hb⟩
theorem pnum_le {n most : Int} {size : Nat} {s : Option (List UInt8)} {x : List UInt8} (h : ocat s (pnum n size most) = some x) : 0 ≤ n ∧ n ≤ most := by
  unfold pnum at h
  by_cases hc : n < 0 ∨ most < n
  · rw [if_pos hc, ocat_none2] at h; cases h
  · omega
theorem ocat_left {s t : Option (List UInt8)} {x : List UInt8} (h : ocat s t = some x) : ∃ y, s = some y := by
  cases s
  · cases h
  · exact ⟨_, rfl⟩
theorem pcat_cut (f : Int × List UInt8 → Option (List UInt8)) (l : List (Int × List UInt8)) (k : Nat) : pcat (l.map f) = ocat (pcat ((l.take k).map f)) (pcat ((l.drop k).map f)) := by
  rw [← pcat_append, ← List.map_append, List.take_append_drop]
theorem pcat_step (f : Int × List UInt8 → Option (List UInt8)) (l : List (Int × List UInt8)) (k : Nat) (a : Int × List UInt8) (h : l[k]? = some a) : pcat ((l.take (k + 1)).map f) = ocat (pcat ((l.take k).map f)) (f a) := by
  rw [List.take_add_one, h, List.map_append, pcat_append]
  simp only [Option.toList_some, List.map_cons, List.map_nil, pcat, ocat_nil]
set_option maxHeartbeats 1000000 in
theorem wattrs_o (p : Nat) (A : Option Addr) (m c : Nat) (l : List (Int × List UInt8)) (S : List Nat) (s : Option (List UInt8)) (K : Nat) (w : World) (h : WrO w p S s K) (hx : AtsAt w p A m l) (hm63 : m ≤ maxLen) (hK : K ≤ 10000000000) :
    Calls Try.prog 24 #[.pointer (some ⟨p, 0, none⟩), .slice A m c] w fun e w' => e = .returned (.tuple #[]) ∧ ∃ S', Wrote p w w' S (ocat s (pattrs l)) (K + 6000000) S' := by
  have hl := hx.1
  unfold maxLen at hm63
  have hp := h.lt
  have hin := h.in_
  have H := Lib.hid (And.intro h (And.intro hx (And.intro hl (And.intro hK (And.intro hp hin)))))
  clear h hx hl hp hin
  go_enter Try.func24, Try.ntmps24
  go_wp2_with fail
  refine (put_o p m 64 1 S s K w H.out.1 (.inl rfl) (by decide) (by have := H.out.2.2.2.1; omega)).mono ?_
  rintro e w1 ⟨rfl, S1, hW1⟩
  have H1 := Lib.hid hW1
  clear hW1
  go_wp2_with fail
  go_loopw [12] (fun kk wr => ∃ k : Nat, k ≤ l.length ∧ k ≤ 64 ∧ kk = .int .i64 (k : Int) ∧ ∃ Sr, Wrote p w wr S (ocat (ocat s (pnum m 1 64)) (pcat ((l.take k).map pattr))) (K + 8 + k * 80000) Sr) (fun kk _ => l.length - (intOf kk).toNat)
  case atStart => exact ⟨0, by omega, by omega, rfl, S1, by rw [List.take_zero, List.map_nil, pcat, ocat_nil]; simpa using H1.out⟩
  case round =>
    obtain ⟨k, hk, hk64, rfl, Sr, hWr⟩ := hrel
    have hBr : Below p w wr := hWr.below (fun x hx => (H.out.2.2.2.2.2 x hx).1) (Nat.le_refl _) (Nat.le_of_lt H.out.2.2.2.2.1)
    obtain ⟨lw, bad, ⟨A1, n1, c1, hb, ho, hSr⟩, hlw, hsw⟩ := hWr.wr
    have hbl := hb.cell 1
    simp only [List.getElem?_toArray, List.getElem?_cons_succ, List.getElem?_cons_zero] at hbl
    have hl := H.out.2.2.1
    have hpl : p < wr.heap.size := hb.lt
    have HR := Lib.hid (And.intro hWr (And.intro hsw hBr))
    clear hb ho hlw hsw hBr hWr
    have hk0 : ¬ ((k : Int) < 0) := by omega
    by_cases hlt : k < m
    · have hlti : (k : Int) < m := by omega
      have hltd : decide ((k : Int) < m) = true := decide_eq_true hlti
      obtain ⟨⟨t, x⟩, htx⟩ : ∃ tx, l[k]? = some tx := ⟨_, List.getElem?_eq_getElem (by omega)⟩
      obtain ⟨hxl, h2 | ⟨b, off, rfl, h3, h3', h4⟩⟩ := H.out.2.1.old HR.out.2.2
      · omega
      obtain ⟨k1, Aj, mj, cj, k2, k3⟩ := h4 k t x htx
      have HX := Lib.hid (And.intro k3 (And.intro htx hxl))
      clear h4 k3 htx hxl hl
      cases bad
      · have hm64 : m ≤ 64 := by
          have h0 := HR.out.2.1
          rw [if_neg (by simp)] at h0
          obtain ⟨y, hy⟩ := ocat_left h0
          have := (pnum_le hy).2
          omega
        have HM := Lib.hid hm64
        clear hm64
        go_wp2_with fail
        have hWa := HR.out.1.alloc (.cells #[.int .i64 t, .slice Aj mj cj] 50)
        have hbx : Blk (wr.alloc (.cells #[.int .i64 t, .slice Aj mj cj] 50)) wr.heap.size 50 #[.int .i64 t, .slice Aj mj cj] := Blk.new _ _ _
        refine (put_o p t 65535 2 _ _ _ _ hWa.wr (.inr (.inl rfl)) (by decide) (by have := H.out.2.2.2.1; omega)).mono ?_
        rintro e w3 ⟨rfl, S3, hW3⟩
        have hb3 : Blk w3 wr.heap.size 50 #[.int .i64 t, .slice Aj mj cj] := hbx.turn hW3.turn (fun hm => by have := (HR.out.1.wr.in_ _ hm).2; omega)
        have hW3' := hWa.trans hW3
        have hx3 : RdB w3 p Aj mj cj x := (HX.out.1.old ((Below.refl p wr).alloc (by omega) _)).old (hW3.below (fun x hx => (hWa.wr.in_ x hx).1) (Nat.le_refl _) (by simp; omega))
        have q0 := hb3.cell 0
        have q1 := hb3.cell 1
        simp only [List.getElem?_toArray, List.getElem?_cons_succ, List.getElem?_cons_zero] at q0 q1
        have H3 := Lib.hid (And.intro hW3' hx3)
        clear hWa hbx hW3 hb3 hW3' hx3
        go_wp2_with fail
        refine (wbytes_o p Aj mj cj x 16384 2 _ _ _ w3 H3.out.1.wr H3.out.2 (.inr (.inl rfl)) (by decide) (by have := H.out.2.2.2.1; omega)).mono ?_
        rintro e w4 ⟨rfl, S4, hW4⟩
        have hW4' := H3.out.1.trans hW4
        have H4 := Lib.hid hW4'
        clear hW4 hW4'
        go_wp2_with fail
        go_roundw
        case measure => simp [intOf]; have := HX.out.2.2; omega
        refine ⟨k + 1, by have := HX.out.2.2; omega, by have := HM.out; omega, by simp, S4, ?_⟩
        have := H4.out
        rw [ocat_assoc, ocat_assoc] at this
        rw [pcat_step _ _ _ _ HX.out.2.1]
        unfold pattr
        simp only [ocat_assoc] at this ⊢
        exact this.more (by omega)
      · go_wp2_with fail
        refine bodyPost_ret (results_none rfl _ _ _) rfl ?_
        have hWa := HR.out.1.alloc (.cells #[.int .i64 t, .slice Aj mj cj] 50)
        refine ⟨rfl, Sr, ?_⟩
        have hn := HR.out.2.1
        rw [if_pos trivial] at hn
        have : ocat s (pattrs l) = ocat (ocat (ocat s (pnum m 1 64)) (pcat ((l.take k).map pattr))) (pcat ((l.drop k).map pattr)) := by
          unfold pattrs
          rw [pcat_cut pattr l k, HX.out.2.2, ocat_assoc, ocat_assoc]
        rw [this]
        rw [hn] at hWa ⊢
        exact hWa.more (by omega)
    · have hltd : decide ((k : Int) < m) = false := decide_eq_false (by omega)
      have hlti : ¬ (k : Int) < m := by omega
      go_wp2_with fail
      go_end0
      refine ⟨rfl, Sr, ?_⟩
      have := HR.out.1
      rw [List.take_of_length_le (by omega), ocat_assoc] at this
      unfold pattrs
      rw [hl]
      exact this.more (by omega)
end Go.Proofs.Ytmanpfenmamflaa
