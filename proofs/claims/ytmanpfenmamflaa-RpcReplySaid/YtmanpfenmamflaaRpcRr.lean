/-
  The reply that is read, plainly; what was written is read as it was.
-/
import Derived.Test.YtmanpfenmamflaaRpcS3
import Derived.Test.YtmanpfenmamflaaRpc6
namespace Go.Proofs.Ytmanpfenmamflaa
open Go.RowKit

def rr1 (l : List UInt8) : St := gS (l, false) 4
def rr2 (l : List UInt8) : St := gS (rr1 l) 4
def rr3 (l : List UInt8) : St := gS (rr2 l) 4
def rr4 (l : List UInt8) : St := yS (rr3 l) 4
def rr5 (l : List UInt8) : St := gS (rr4 l) 2
def rrM (l : List UInt8) : Nat := min (be (tkO (rr4 l).1 2)) 1025
def rr6 (l : List UInt8) : St := (giS (rr5 l) (rrM l)).2
def rr7 (l : List UInt8) : St := aS (rr6 l)
/-- The reply that is read. -/
def rrC (l : List UInt8) : PRep := ⟨gO (l, false) 4, gO (rr1 l) 4, gO (rr2 l) 4, yO (rr3 l) 4, (giS (rr5 l) (rrM l)).1, aO (rr6 l)⟩
theorem rrC_eqs (l : List UInt8) : (rrC l).rv = gO (l, false) 4 ∧ (rrC l).a = gO (rr1 l) 4 ∧ (rrC l).b = gO (rr2 l) 4 ∧ (rrC l).data = yO (rr3 l) 4 ∧ (rrC l).list = (giS (rr5 l) (rrM l)).1 ∧ (rrC l).attrs = aO (rr6 l) := by
  unfold rrC
  refine ⟨?_, ?_, ?_, ?_, ?_, ?_⟩ <;> dsimp only
def zRep : PRep := ⟨0, 0, 0, [], [], []⟩
/-- Is what was read a reply's body? -/
def rrOk (l : List UInt8) : Bool := !(rr7 l).2 && match frameO (replyO (rrC l)) with | none => false | some f => decide (f.drop 4 = l)
theorem rr_read (c : PRep) (f : List UInt8) (h : frameO (replyO c) = some f) : rrOk (f.drop 4) = true ∧ rrC (f.drop 4) = c ∧ f.length ≤ 300000 := by
  have h0 := h
  cases hc : replyO c with
  | none => rw [hc] at h; cases h
  | some l =>
    rw [hc] at h
    have h : (if 262144 < l.length then none else some (num l.length 4 ++ l)) = some f := h
    split at h
    · cases h
    · rename_i hl
      injection h with h
      have hd : f.drop 4 = l := by
        rw [← h]
        have := num_len l.length 4 (by omega)
        rw [List.drop_append, this]; simp [List.drop_of_length_le, this]
      have hfl : f.length ≤ 300000 := by rw [← h, List.length_append, num_len _ _ (by omega)]; omega
      rw [hd]
      unfold replyO at hc
      obtain ⟨a3, ta, h3, hta, e3⟩ := ocat_len hc
      obtain ⟨a2, li, h2, hli, e2⟩ := ocat_len h3
      obtain ⟨a1, da, h1, hda, e1⟩ := ocat_len h2
      unfold pints at hli
      obtain ⟨nl, ls, hnl, hls, e4⟩ := ocat_len hli
      have h1' : ocat (p4 c.rv) (ocat (p4 c.a) (ocat (p4 c.b) (some []))) = some a1 := h1
      obtain ⟨x1, y1, hx1, hy1, f1⟩ := ocat_len h1'
      obtain ⟨x2, y2, hx2, hy2, f2⟩ := ocat_len hy1
      obtain ⟨x3, y3, hx3, hy3, f3⟩ := ocat_len hy2
      injection hy3 with hy3
      subst hy3
      have hl' : l = x1 ++ (x2 ++ (x3 ++ (da ++ (nl ++ (ls ++ (ta ++ [])))))) := by
        rw [e3, e2, e1, e4, f1, f2, f3]; simp only [List.append_assoc, List.append_nil, List.nil_append]
      unfold p4 at hx1 hx2 hx3
      obtain ⟨g1, r1⟩ := g_num (.inr (.inr rfl)) (by decide) hx1 (x2 ++ (x3 ++ (da ++ (nl ++ (ls ++ (ta ++ []))))))
      obtain ⟨g2, r2⟩ := g_num (.inr (.inr rfl)) (by decide) hx2 (x3 ++ (da ++ (nl ++ (ls ++ (ta ++ [])))))
      obtain ⟨g3, r3⟩ := g_num (.inr (.inr rfl)) (by decide) hx3 (da ++ (nl ++ (ls ++ (ta ++ []))))
      obtain ⟨g4, r4⟩ := y_bytes (.inr (.inr rfl)) (by decide) hda (nl ++ (ls ++ (ta ++ [])))
      obtain ⟨g5, r5⟩ := g_num (.inr (.inl rfl)) (by decide) hnl (ls ++ (ta ++ []))
      obtain ⟨b1, b2, u1, u2, u3⟩ := giS_read c.list ls hls (ta ++ []) c.list.length (Nat.le_refl _)
      rw [List.drop_length, List.map_nil, pcat] at u3
      injection u3 with u3
      subst u3
      rw [List.take_length, List.nil_append] at u2
      obtain ⟨g7, r7⟩ := a_read hta []
      rw [← hl'] at g1 r1
      have s1 : rr1 l = (x2 ++ (x3 ++ (da ++ (nl ++ (ls ++ (ta ++ []))))), false) := by unfold rr1; exact r1
      have s2 : rr2 l = (x3 ++ (da ++ (nl ++ (ls ++ (ta ++ [])))), false) := by unfold rr2; rw [s1]; exact r2
      have s3 : rr3 l = (da ++ (nl ++ (ls ++ (ta ++ []))), false) := by unfold rr3; rw [s2]; exact r3
      have s4 : rr4 l = (nl ++ (ls ++ (ta ++ [])), false) := by unfold rr4; rw [s3]; exact r4
      have s5 : rr5 l = (ls ++ (ta ++ []), false) := by unfold rr5; rw [s4]; exact r5
      have hlm : (c.list.length : Int) ≤ 1024 := by
        unfold pnum at hnl
        split at hnl
        · cases hnl
        · omega
      have sM : rrM l = c.list.length := by
        unfold rrM
        rw [s4]
        have : be (tkO (nl ++ (ls ++ (ta ++ []))) 2) = c.list.length := by unfold gO at g5; exact Int.ofNat.inj g5
        show min (be (tkO (nl ++ (ls ++ (ta ++ []))) 2)) 1025 = _
        rw [this]; omega
      have s6 : rr6 l = (ta ++ [], false) := by unfold rr6; rw [s5, sM, u2]
      have s7 : rr7 l = ([], false) := by unfold rr7; rw [s6, r7]
      obtain ⟨k1, k2, k3, k4, k5, k6⟩ := rrC_eqs l
      rw [g1] at k1
      rw [s1, g2] at k2
      rw [s2, g3] at k3
      rw [s3, g4] at k4
      rw [s5, sM, u2] at k5
      rw [s6, g7] at k6
      have hrc : rrC l = c := by
        generalize rrC l = z at *
        obtain ⟨z1, z2, z3, z4, z5, z6⟩ := z
        obtain ⟨c1, c2, c3, c4, c5, c6⟩ := c
        simp only at k1 k2 k3 k4 k5 k6
        subst k1 k2 k3 k4 k5 k6
        rfl
      refine ⟨?_, hrc, hfl⟩
      unfold rrOk
      rw [s7, hrc, h0]
      simp only [Bool.not_false, Bool.true_and]
      exact decide_eq_true hd
end Go.Proofs.Ytmanpfenmamflaa
