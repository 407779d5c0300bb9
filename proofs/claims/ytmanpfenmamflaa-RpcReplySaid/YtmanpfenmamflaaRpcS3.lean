/-
  What was written is read as it was.
-/
import Derived.Test.YtmanpfenmamflaaRpcA
import Derived.Test.YtmanpfenmamflaaRpcR5
namespace Go.Proofs.Ytmanpfenmamflaa
open Go.RowKit

theorem be_num (n size : Nat) (hs : size = 1 ∨ size = 2 ∨ size = 4) (h : n < 256 ^ size) : be (num n size) = n := by
  have hn : n < 18446744073709551616 := by rcases hs with rfl | rfl | rfl <;> omega
  rw [← numL_all n size hn hs]
  rcases hs with rfl | rfl | rfl
  · show be [UInt8.ofNat (n / 256 ^ 0 % 256)] = n
    simp only [be, List.foldl_cons, List.foldl_nil, UInt8.toNat_ofNat']
    omega
  · show be [UInt8.ofNat (n / 256 ^ 1 % 256), UInt8.ofNat (n / 256 ^ 0 % 256)] = n
    simp only [be, List.foldl_cons, List.foldl_nil, UInt8.toNat_ofNat']
    omega
  · show be [UInt8.ofNat (n / 256 ^ 3 % 256), UInt8.ofNat (n / 256 ^ 2 % 256), UInt8.ofNat (n / 256 ^ 1 % 256), UInt8.ofNat (n / 256 ^ 0 % 256)] = n
    simp only [be, List.foldl_cons, List.foldl_nil, UInt8.toNat_ofNat']
    omega
theorem tk_app (a r : List UInt8) (bad : Bool) (n : Nat) (h : a.length = n) : tkO (a ++ r) n = a ∧ tkL (a ++ r) n = r ∧ tkB (a ++ r) bad n = bad := by
  subst h
  have hl : ¬ (a ++ r).length < a.length := by rw [List.length_append]; omega
  unfold tkO tkL tkB
  rw [if_neg hl, if_neg hl, if_neg hl, List.take_left, List.drop_left]
  exact ⟨rfl, rfl, rfl⟩
/-- A number is read. -/
theorem g_num {n most : Int} {size : Nat} {a : List UInt8} (hs : size = 1 ∨ size = 2 ∨ size = 4) (hm : most < ((256 ^ size : Nat) : Int)) (h : pnum n size most = some a) (r : List UInt8) : gO (a ++ r, false) size = n ∧ gS (a ++ r, false) size = (r, false) := by
  have hl := pnum_len h (by omega)
  unfold pnum at h
  split at h
  · cases h
  · rename_i hc
    injection h with h
    obtain ⟨N, rfl⟩ := Int.eq_ofNat_of_zero_le (show 0 ≤ n by omega)
    obtain ⟨h1, h2, h3⟩ := tk_app a r false size hl
    unfold gO gS
    have hN : N < 256 ^ size := by omega
    rw [h1, h2, h3, ← h, Int.toNat_natCast, be_num N size hs hN]
    exact ⟨rfl, rfl⟩
theorem y_bytes {x a : List UInt8} {most : Int} {size : Nat} (hs : size = 1 ∨ size = 2 ∨ size = 4) (hm : most < ((256 ^ size : Nat) : Int)) (h : pbytes x size most = some a) (r : List UInt8) : yO (a ++ r, false) size = x ∧ yS (a ++ r, false) size = (r, false) := by
  unfold pbytes at h
  obtain ⟨u, v, hu, hv, rfl⟩ := ocat_len h
  injection hv with hv
  subst hv
  rw [List.append_assoc]
  obtain ⟨h1, h2⟩ := g_num hs hm hu (x ++ r)
  unfold gO at h1
  unfold gS at h2
  injection h2 with h2 h3
  have hb : be (tkO (u ++ (x ++ r)) size) = x.length := Int.ofNat.inj h1
  obtain ⟨t1, t2, t3⟩ := tk_app x r false x.length rfl
  simp only at h2 h3
  unfold yO yS ryO ryL ryB
  simp only
  rw [h2, h3, hb, t1, t2, t3]
  exact ⟨rfl, rfl⟩
theorem giS_read : ∀ (is : List Int) (a : List UInt8), pcat (is.map p4) = some a → ∀ r k, k ≤ is.length → ∃ a1 a2, a = a1 ++ a2 ∧ giS (a ++ r, false) k = (is.take k, (a2 ++ r, false)) ∧ pcat ((is.drop k).map p4) = some a2 := by
  intro is a h r k
  induction k with
  | zero => intro _; exact ⟨[], a, rfl, rfl, h⟩
  | succ k ih =>
    intro hk
    obtain ⟨a1, a2, h1, h2, h3⟩ := ih (by omega)
    rw [List.drop_eq_getElem_cons (by omega), List.map_cons, pcat] at h3
    obtain ⟨u, v, hu, hv, huv⟩ := ocat_len h3
    unfold p4 at hu
    obtain ⟨g1, g2⟩ := g_num (.inr (.inr rfl)) (by decide) hu (v ++ r)
    refine ⟨a1 ++ u, v, by rw [h1, huv, List.append_assoc], ?_, hv⟩
    show ((giS (a ++ r, false) k).1 ++ [gO (giS (a ++ r, false) k).2 4], gS (giS (a ++ r, false) k).2 4) = _
    rw [h2]
    simp only
    rw [huv, List.append_assoc, g1, g2, List.take_add_one, List.getElem?_eq_getElem (by omega)]
    rfl
theorem raS_read : ∀ (l : List (Int × List UInt8)) (a : List UInt8), pcat (l.map pattr) = some a → ∀ r k, k ≤ l.length → ∃ a1 a2, a = a1 ++ a2 ∧ raS (a ++ r) false k = (l.take k, a2 ++ r, false) ∧ pcat ((l.drop k).map pattr) = some a2 := by
  intro l a h r k
  induction k with
  | zero => intro _; exact ⟨[], a, rfl, rfl, h⟩
  | succ k ih =>
    intro hk
    obtain ⟨a1, a2, h1, h2, h3⟩ := ih (by omega)
    rw [List.drop_eq_getElem_cons (by omega), List.map_cons, pcat] at h3
    obtain ⟨u, v, hu, hv, huv⟩ := ocat_len h3
    obtain ⟨⟨t, x⟩, htx⟩ : ∃ tx, l[k] = tx := ⟨_, rfl⟩
    rw [htx] at hu
    unfold pattr at hu
    obtain ⟨u1, u2, hu1, hu2, hu12⟩ := ocat_len hu
    obtain ⟨g1, g2⟩ := g_num (.inr (.inl rfl)) (by decide) hu1 (u2 ++ (v ++ r))
    obtain ⟨y1, y2⟩ := y_bytes (.inr (.inl rfl)) (by decide) hu2 (v ++ r)
    refine ⟨a1 ++ u, v, by rw [h1, huv, List.append_assoc], ?_, hv⟩
    have hst : raS (a ++ r) false (k + 1) = ((raS (a ++ r) false k).1 ++ [(gO ((raS (a ++ r) false k).2.1, (raS (a ++ r) false k).2.2) 2, yO (gS ((raS (a ++ r) false k).2.1, (raS (a ++ r) false k).2.2) 2) 2)], (yS (gS ((raS (a ++ r) false k).2.1, (raS (a ++ r) false k).2.2) 2) 2).1, (yS (gS ((raS (a ++ r) false k).2.1, (raS (a ++ r) false k).2.2) 2) 2).2) := rfl
    rw [hst, h2]
    simp only
    rw [huv, hu12, List.append_assoc, List.append_assoc, g1, g2, y1, y2, List.take_add_one, List.getElem?_eq_getElem (by omega), htx]
    rfl
theorem a_read {l : List (Int × List UInt8)} {a : List UInt8} (h : pattrs l = some a) (r : List UInt8) : aO (a ++ r, false) = l ∧ aS (a ++ r, false) = (r, false) := by
  unfold pattrs at h
  obtain ⟨u, v, hu, hv, rfl⟩ := ocat_len h
  obtain ⟨g1, g2⟩ := g_num (.inl rfl) (by decide) hu (v ++ r)
  obtain ⟨a1, a2, e1, e2, e3⟩ := raS_read l v hv r l.length (Nat.le_refl _)
  rw [List.drop_length, List.map_nil, pcat] at e3
  injection e3 with e3
  subst e3
  rw [List.take_length, List.nil_append] at e2
  have hb : be (tkO (u ++ (v ++ r)) 1) = l.length := by unfold gO at g1; exact Int.ofNat.inj g1
  have h2 : tkL (u ++ (v ++ r)) 1 = v ++ r ∧ tkB (u ++ (v ++ r)) false 1 = false := by unfold gS at g2; injection g2 with g2 g3; exact ⟨g2, g3⟩
  unfold aO aS raA
  simp only
  rw [List.append_assoc, hb, h2.1, h2.2, e2]
  exact ⟨rfl, rfl⟩
theorem rc_read (c : PCall) (f : List UInt8) (h : frameO (callO c) = some f) : rcOk (f.drop 4) = true ∧ rcC (f.drop 4) = c ∧ f.length ≤ 300000 := by
  have h0 := h
  cases hc : callO c with
  | none => rw [hc] at h; cases h
  | some l =>
    rw [hc] at h
    have h : (if 262144 < l.length then none else some (num l.length 4 ++ l)) = some f := h
    split at h
    · cases h
    · rename_i hl
      injection h with h
      have hd : f.drop 4 = l := by
        rw [← h]
        have := num_len l.length 4 (by omega)
        rw [List.drop_append, this]; simp [List.drop_of_length_le, this]
      have hfl : f.length ≤ 300000 := by rw [← h, List.length_append, num_len _ _ (by omega)]; omega
      rw [hd]
      have hcc := hc
      unfold callO at hc
      obtain ⟨a6, t2, h6, ht2, e6⟩ := ocat_len hc
      obtain ⟨a5, t1, h5, ht1, e5⟩ := ocat_len h6
      obtain ⟨a4, mo, h4, hmo, e4⟩ := ocat_len h5
      obtain ⟨a3, da, h3, hda, e3⟩ := ocat_len h4
      obtain ⟨a2, pa, h2, hpa, e2⟩ := ocat_len h3
      obtain ⟨a1, is, h1, his, e1⟩ := ocat_len h2
      have hl' : l = a1 ++ (is ++ (pa ++ (da ++ (mo ++ (t1 ++ (t2 ++ [])))))) := by
        rw [e6, e5, e4, e3, e2, e1]; simp only [List.append_assoc, List.append_nil]
      obtain ⟨g1, g2⟩ := g_num (.inl rfl) (by decide) h1 (is ++ (pa ++ (da ++ (mo ++ (t1 ++ (t2 ++ []))))))
      rw [← hl'] at g1 g2
      obtain ⟨b1, b2, f1, f2, f3⟩ := giS_read _ is his (pa ++ (da ++ (mo ++ (t1 ++ (t2 ++ []))))) 5 (by simp)
      have f3 : some ([] : List UInt8) = some b2 := f3
      injection f3 with f3
      subst f3
      rw [List.take_of_length_le (by simp), List.nil_append] at f2
      have r1 : rcI l = ([c.ss, c.a, c.b, c.n, c.kd], (pa ++ (da ++ (mo ++ (t1 ++ (t2 ++ [])))), false)) := by unfold rcI; rw [g2]; exact f2
      obtain ⟨p1, p2⟩ := y_bytes (.inr (.inl rfl)) (by decide) hpa (da ++ (mo ++ (t1 ++ (t2 ++ []))))
      obtain ⟨d1, d2⟩ := y_bytes (.inr (.inr rfl)) (by decide) hda (mo ++ (t1 ++ (t2 ++ [])))
      obtain ⟨m1, m2⟩ := y_bytes (.inr (.inl rfl)) (by decide) hmo (t1 ++ (t2 ++ []))
      obtain ⟨u1, u2⟩ := a_read ht1 (t2 ++ [])
      obtain ⟨v1, v2⟩ := a_read ht2 []
      have r2 : rc2 l = (pa ++ (da ++ (mo ++ (t1 ++ (t2 ++ [])))), false) := by unfold rc2; rw [r1]
      have r3 : rc3 l = (da ++ (mo ++ (t1 ++ (t2 ++ []))), false) := by unfold rc3; rw [r2, p2]
      have r4 : rc4 l = (mo ++ (t1 ++ (t2 ++ [])), false) := by unfold rc4; rw [r3, d2]
      have r5 : rc5 l = (t1 ++ (t2 ++ []), false) := by unfold rc5; rw [r4, m2]
      have r6 : rc6 l = (t2 ++ [], false) := by unfold rc6; rw [r5, u2]
      have r7 : rc7 l = ([], false) := by unfold rc7; rw [r6, v2]
      obtain ⟨k1, k2, k3, k4, k5, k6, k7⟩ := rcC_eqs l
      rw [g1] at k1
      rw [r1] at k2
      rw [r2, p1] at k3
      rw [r3, d1] at k4
      rw [r4, m1] at k5
      rw [r5, u1] at k6
      rw [r6, v1] at k7
      have hrc : rcC l = c := by
        generalize rcC l = z at *
        obtain ⟨z1, z2, z3, z4, z5, z6, z7, z8, z9, z10, z11⟩ := z
        obtain ⟨c1, c2, c3, c4, c5, c6, c7, c8, c9, c10, c11⟩ := c
        simp only [List.cons.injEq, List.getD_cons_zero, List.getD_cons_succ, and_true] at k1 k2 k3 k4 k5 k6 k7
        obtain ⟨n2, n3, n4, n5, n6⟩ := k2
        subst k1 n2 n3 n4 n5 n6 k3 k4 k5 k6 k7
        rfl
      refine ⟨?_, hrc, hfl⟩
      unfold rcOk
      rw [r7, hrc, h0]
      simp only [Bool.not_false, Bool.true_and]
      exact decide_eq_true hd
end Go.Proofs.Ytmanpfenmamflaa
