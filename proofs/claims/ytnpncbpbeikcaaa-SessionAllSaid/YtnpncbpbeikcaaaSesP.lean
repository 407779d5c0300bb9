/-
  Sessions, plainly: the program's table and the reference's are the same.
-/
import Derived.Test.YtnpncbpbeikcaaaSesR6
namespace Go.Proofs.Ytnpncbpbeikcaaa
open Go.RowKit Go.Maps

def look (who : List PL) (a b : Int) : Option Int := (who.find? (fun x => decide (x.c = a ∧ x.s = b))).map PL.u
structure Rel (T : PT) (R : RP) : Prop where
  l : R.l = T.l
  next : R.next = T.last
  who : ∀ a b, T.who a b = look R.who a b
  uniq : T.l.Pairwise (fun x y => x.h ≠ y.h)
  le : ∀ x ∈ T.l, x.h ≤ T.last
  op : ∀ a b, (T.who a b).isSome = true → T.open_ a b = true
  us : ∀ a b u, T.who a b = some u → u = 0 ∨ u = 1
section
variable {T : PT} {R : RP}
theorem Rel.empty : Rel PT.empty ⟨[], 0, []⟩ := ⟨rfl, rfl, fun _ _ => rfl, List.Pairwise.nil, by simp [PT.empty], fun a b h => by simp [PT.empty] at h, fun a b u h => by simp [PT.empty] at h⟩
theorem Rel.user (h : Rel T R) (a b : Int) : ruser R.who a b = T.user a b := by
  unfold ruser PT.user
  rw [h.who]
  unfold look
  cases R.who.find? (fun x => decide (x.c = a ∧ x.s = b)) <;> rfl
theorem Rel.users (h : Rel T R) (a b : Int) : T.user a b = -1 ∨ T.user a b = 0 ∨ T.user a b = 1 := by
  unfold PT.user
  cases hw : T.who a b with
  | none => exact .inl rfl
  | some u => exact .inr (h.us a b u hw)
theorem Rel.has (h : Rel T R) (a b : Int) : rhas R.l a b = T.open_ a b := by unfold rhas PT.open_; rw [h.l]
theorem Rel.used (h : Rel T R) (s : Int) : rused R.l s = T.usedW s := by unfold rused PT.usedW; rw [h.l]
theorem Rel.ro (h : Rel T R) (a b : Int) : rro R.l a b = T.ro a b := by unfold rro PT.ro; rw [h.l]; rfl
theorem Rel.may (h : Rel T R) (a b u : Int) : R.mayW a b u = T.mayW a b u := by
  unfold RP.mayW PT.mayW
  rw [h.user, h.ro, h.has]
  have h3 : (0 ≤ T.user a b) = (T.user a b ≠ -1) := by
    apply propext
    have := h.users a b
    omega
  simp only [h3]
theorem Rel.state (h : Rel T R) (conn hh : Int) : R.stateW conn hh = T.stateW conn hh := by
  unfold RP.stateW PT.stateW PT.seek
  rw [h.l]
  cases hs : T.l.find? (fun x => decide (x.h = hh ∧ x.c = conn)) with
  | none => rfl
  | some x =>
    have h1 := List.find?_some hs
    simp at h1
    simp only
    rw [h.user, h1.2]
theorem Rel.opened (h : Rel T R) (hl : 0 ≤ T.last) (a b : Int) (w : Bool) : R.openW a b w = ((T.openW a b w).1, (T.openW a b w).2.1, (R.openW a b w).2.2) ∧ Rel (T.openW a b w).2.2 (R.openW a b w).2.2 := by
  unfold RP.openW PT.openW
  rw [h.user, h.l, h.next]
  by_cases c1 : ¬ (0 ≤ b ∧ b < 4)
  · rw [if_pos c1, if_pos c1]; exact ⟨rfl, h⟩
  rw [if_neg c1, if_neg c1]
  by_cases c2 : 16 ≤ T.l.length
  · rw [if_pos c2, if_pos c2]; exact ⟨rfl, h⟩
  rw [if_neg c2, if_neg c2]
  by_cases c3 : w = false ∧ T.user a b = 0
  · rw [if_pos c3, if_pos c3]; exact ⟨rfl, h⟩
  rw [if_neg c3, if_neg c3]
  refine ⟨rfl, rfl, rfl, h.who, ?_, fun x hx => ?_, fun x y hw => ?_, h.us⟩
  · show (T.l ++ _).Pairwise _
    rw [List.pairwise_append]
    refine ⟨h.uniq, by simp, fun x hx y hy => ?_⟩
    simp at hy
    subst hy
    have := h.le x hx
    show x.h ≠ T.last + 1
    omega
  · show x.h ≤ T.last + 1
    rcases List.mem_append.1 hx with e | e
    · have := h.le x e; omega
    · simp at e; subst e; exact Int.le_refl _
  · have := h.op x y hw
    unfold PT.open_ at this ⊢
    show (T.l ++ _).any _ = true
    rw [List.any_append, this]; rfl
theorem look_put (who : List PL) (a b u : Int) (hn : look who a b = none) (x y : Int) : look (who ++ [⟨a, b, u⟩]) x y = if x = a ∧ y = b then some u else look who x y := by
  unfold look at hn ⊢
  rw [List.find?_append]
  by_cases he : x = a ∧ y = b
  · obtain ⟨rfl, rfl⟩ := he
    rw [if_pos ⟨rfl, rfl⟩]
    cases hf : who.find? (fun z => decide (z.c = x ∧ z.s = y)) with
    | none => simp
    | some z => rw [hf] at hn; simp at hn
  · rw [if_neg he]
    cases hf : who.find? (fun z => decide (z.c = x ∧ z.s = y)) with
    | none =>
      have : [(⟨a, b, u⟩ : PL)].find? (fun z => decide (z.c = x ∧ z.s = y)) = none := by
        rw [List.find?_eq_none]
        intro z hz
        simp at hz
        subst hz
        simp
        intro e1 e2
        exact he ⟨e1.symm, e2.symm⟩
      rw [this]; rfl
    | some z => rfl
theorem look_out (who : List PL) (a b : Int) (x y : Int) : look (who.filter fun z => !isAt a b z) x y = if x = a ∧ y = b then none else look who x y := by
  unfold look
  induction who with
  | nil => simp
  | cons z who ih =>
    by_cases hz : isAt a b z = true
    · rw [List.filter_cons_of_neg (by simp [hz])]
      rw [ih]
      by_cases he : x = a ∧ y = b
      · rw [if_pos he, if_pos he]
      · rw [if_neg he, if_neg he, List.find?_cons_of_neg]
        unfold isAt at hz
        simp at hz ⊢
        intro e1 e2
        exact he ⟨by omega, by omega⟩
    · rw [List.filter_cons_of_pos (by simpa using hz)]
      by_cases hxy : decide (z.c = x ∧ z.s = y) = true
      · rw [List.find?_cons_of_pos (p := fun w : PL => decide (w.c = x ∧ w.s = y)) hxy, List.find?_cons_of_pos (p := fun w : PL => decide (w.c = x ∧ w.s = y)) hxy, if_neg]
        intro he
        apply hz
        unfold isAt
        simp at hxy ⊢
        omega
      · rw [List.find?_cons_of_neg (p := fun w : PL => decide (w.c = x ∧ w.s = y)) hxy, List.find?_cons_of_neg (p := fun w : PL => decide (w.c = x ∧ w.s = y)) hxy]
        exact ih
theorem Rel.may_user (h : Rel T R) (a b u : Int) (hm : T.mayW a b u = 0) : T.user a b = -1 ∧ (u = 0 ∨ u = 1) ∧ T.open_ a b = true := by
  unfold PT.mayW at hm
  split at hm
  · omega
  · split at hm
    · omega
    · split at hm
      · omega
      · split at hm
        · omega
        · split at hm
          · omega
          · rename_i h1 h2 h3 h4 h5
            exact ⟨by omega, by omega, by simpa using h5⟩
theorem user_none (h : Rel T R) (a b : Int) (hu : T.user a b = -1) : T.who a b = none := by
  cases hw : T.who a b with
  | none => rfl
  | some v =>
    unfold PT.user at hu
    rw [hw] at hu
    have := h.us a b v hw
    simp at hu
    omega
theorem Rel.loggedin (h : Rel T R) (a b u : Int) : Rel (T.loginW a b u) (R.loginW a b u) := by
  unfold PT.loginW RP.loginW
  rw [h.may]
  by_cases c : T.mayW a b u = 0
  · rw [if_pos c, if_pos c]
    obtain ⟨c1, c2, c3⟩ := h.may_user a b u c
    have hn := user_none h a b c1
    refine ⟨h.l, h.next, fun x y => ?_, h.uniq, h.le, fun x y hw => ?_, fun x y v hv => ?_⟩
    · show putW T.who a b u x y = look (R.who ++ _) x y
      rw [look_put _ _ _ _ (by rw [← h.who]; exact hn)]
      unfold putW
      rw [h.who x y]
    · show T.open_ x y = true
      by_cases he : x = a ∧ y = b
      · rw [he.1, he.2]; exact c3
      · refine h.op x y ?_
        simp only [putW, if_neg he] at hw
        exact hw
    · simp only [putW] at hv
      by_cases he : x = a ∧ y = b
      · rw [if_pos he] at hv; injection hv with hv; omega
      · rw [if_neg he] at hv; exact h.us x y v hv
  · rw [if_neg c, if_neg c]; exact h
theorem Rel.out (h : Rel T R) (a b : Int) : Rel ⟨T.l, T.last, delW T.who a b, T.n⟩ (R.out a b) := by
  refine ⟨h.l, h.next, fun x y => ?_, h.uniq, h.le, fun x y hw => ?_, fun x y v hv => ?_⟩
  · show delW T.who a b x y = look (R.who.filter _) x y
    rw [look_out]
    unfold delW
    rw [h.who x y]
  · show T.open_ x y = true
    refine h.op x y ?_
    simp only [delW] at hw
    split at hw
    · cases hw
    · exact hw
  · simp only [delW] at hv
    split at hv
    · cases hv
    · exact h.us x y v hv
theorem Rel.loggedout (h : Rel T R) (a b : Int) : (R.logoutW a b).1 = (T.logoutW a b).1 ∧ Rel (T.logoutW a b).2 (R.logoutW a b).2 := by
  unfold PT.logoutW RP.logoutW
  rw [h.user]
  have := h.users a b
  by_cases c : T.user a b = -1
  · rw [if_pos c, if_pos (by omega)]; exact ⟨rfl, h⟩
  · rw [if_neg c, if_neg (by omega)]; exact ⟨rfl, h.out a b⟩
end
theorem erase_uniq {hh conn : Int} : ∀ {l : List PS} {x : PS}, l.Pairwise (fun x y => x.h ≠ y.h) → l.find? (fun x => decide (x.h = hh ∧ x.c = conn)) = some x → l.eraseP (fun x => decide (x.h = hh ∧ x.c = conn)) = l.filter (fun x => !decide (x.h = hh))
  | [], _, _, h => by simp at h
  | y :: l, x, hp, h => by
    rw [List.pairwise_cons] at hp
    by_cases hy : decide (y.h = hh ∧ y.c = conn) = true
    · rw [List.eraseP_cons_of_pos (p := fun w : PS => decide (w.h = hh ∧ w.c = conn)) hy]
      simp at hy
      rw [List.filter_cons_of_neg (by simp [hy.1])]
      symm
      rw [List.filter_eq_self]
      intro z hz
      have := hp.1 z hz
      simp
      omega
    · rw [List.find?_cons_of_neg (p := fun w : PS => decide (w.h = hh ∧ w.c = conn)) hy] at h
      rw [List.eraseP_cons_of_neg (p := fun w : PS => decide (w.h = hh ∧ w.c = conn)) hy, erase_uniq hp.2 h]
      have hx := List.find?_some h
      have hm := List.mem_of_find?_eq_some h
      simp at hx
      rw [List.filter_cons_of_pos]
      have := hp.1 x hm
      simp
      omega
section
variable {T : PT} {R : RP}
theorem closed_any (q : PS → Bool) (a b : Int) : (T.l.filter (fun x => !q x)).any (fun x => decide (x.c = a ∧ x.s = b)) = (T.closed q).open_ a b := rfl
/-- What is closed is closed: the relation but for the logins' list. -/
theorem Rel.shut (h : Rel T R) (q : PS → Bool) (who' : List PL) (hw : ∀ a b, (T.closed q).who a b = look who' a b) : Rel (T.closed q) ⟨T.l.filter (fun x => !q x), R.next, who'⟩ := by
  refine ⟨rfl, h.next, hw, h.uniq.filter _, fun x hx => h.le x (List.mem_filter.1 hx).1, fun a b hs => ?_, fun a b u hu => ?_⟩
  · show (T.l.filter _).any _ = true
    simp only [PT.closed] at hs
    split at hs
    · assumption
    · cases hs
  · simp only [PT.closed] at hu
    split at hu
    · exact h.us a b u hu
    · cases hu
theorem Rel.close1 (h : Rel T R) (conn hh : Int) : (R.closeW conn hh).1 = (T.closeW conn hh).1 ∧ Rel (T.closeW conn hh).2 (R.closeW conn hh).2 := by
  unfold RP.closeW PT.closeW PT.seek
  rw [h.l]
  cases hs : T.l.find? (fun x => decide (x.h = hh ∧ x.c = conn)) with
  | none => exact ⟨rfl, h⟩
  | some x =>
    simp only
    have hx := List.find?_some hs
    have hm := List.mem_of_find?_eq_some hs
    simp at hx
    rw [erase_uniq h.uniq hs]
    refine ⟨by first | rfl | trivial, ?_⟩
    -- what the program's logins are
    have key : ∀ a b, (T.closed fun x => decide (x.h = hh)).who a b = if (a = conn ∧ b = x.s) ∧ (T.closed fun x => decide (x.h = hh)).open_ conn x.s = false then none else T.who a b := by
      intro a b
      show (if (T.l.filter _).any _ = true then _ else _) = _
      by_cases he : a = conn ∧ b = x.s
      · obtain ⟨rfl, rfl⟩ := he
        rw [closed_any]
        cases (T.closed fun x => decide (x.h = hh)).open_ a x.s <;> simp
      · rw [show (if (a = conn ∧ b = x.s) ∧ (T.closed fun x => decide (x.h = hh)).open_ conn x.s = false then none else T.who a b) = T.who a b from if_neg (fun e => he e.1)]
        rw [closed_any]
        cases ho : (T.closed fun x => decide (x.h = hh)).open_ a b with
        | true => simp
        | false =>
          simp only [Bool.false_eq_true, if_false]
          cases hw : T.who a b with
          | none => rfl
          | some u =>
            exfalso
            have h1 := h.op a b (by rw [hw]; rfl)
            unfold PT.open_ at h1
            obtain ⟨z, hz, hz2⟩ := List.any_eq_true.1 h1
            simp at hz2
            have h2 : (T.closed fun x => decide (x.h = hh)).open_ a b = true := by
              refine List.any_eq_true.2 ⟨z, List.mem_filter.2 ⟨hz, ?_⟩, by simp [hz2]⟩
              simp
              intro e
              -- the same handle: the same session
              have : z = x := by
                have hp := h.uniq
                rcases Classical.em (z = x) with e2 | e2
                · exact e2
                · exfalso
                  rcases List.mem_iff_getElem.1 hz with ⟨i, hi, rfl⟩
                  rcases List.mem_iff_getElem.1 hm with ⟨j, hj, rfl⟩
                  have hij : i ≠ j := fun e3 => e2 (by subst e3; rfl)
                  rcases Nat.lt_or_gt_of_ne hij with h3 | h3
                  · exact List.pairwise_iff_getElem.1 hp i j hi hj h3 (by omega)
                  · exact List.pairwise_iff_getElem.1 hp j i hj hi h3 (by omega)
              rw [this] at hz2
              exact he ⟨by omega, by omega⟩
            rw [ho] at h2; cases h2
    have hno : rhas (T.l.filter (fun x => !decide (x.h = hh))) conn x.s = (T.closed fun x => decide (x.h = hh)).open_ conn x.s := rfl
    rw [hno]
    cases ho : (T.closed fun x => decide (x.h = hh)).open_ conn x.s with
    | true =>
      rw [if_pos rfl]
      refine h.shut _ _ (fun a b => ?_)
      rw [key, if_neg (fun e => by rw [ho] at e; cases e.2), h.who]
    | false =>
      rw [if_neg (by simp)]
      refine h.shut _ _ (fun a b => ?_)
      show _ = look (R.who.filter _) a b
      rw [key, look_out, ← h.who]
      by_cases he : a = conn ∧ b = x.s
      · rw [if_pos ⟨he, ho⟩, if_pos he]
      · rw [if_neg (fun e => he e.1), if_neg he]
theorem closed_closed (q1 q2 : PS → Bool) : (T.closed q1).closed q2 = T.closed fun x => q1 x || q2 x := by
  have hl : (T.l.filter (fun x => !q1 x)).filter (fun x => !q2 x) = T.l.filter (fun x => !(q1 x || q2 x)) := by
    rw [List.filter_filter]
    congr 1
    funext x
    cases q1 x <;> cases q2 x <;> rfl
  unfold PT.closed
  simp only [PT.mk.injEq, and_true, true_and]
  refine ⟨hl, ?_⟩
  funext a b
  rw [hl]
  by_cases h : (T.l.filter (fun x => !(q1 x || q2 x))).any (fun x => decide (x.c = a ∧ x.s = b)) = true
  · rw [if_pos h, if_pos h, if_pos]
    obtain ⟨z, hz, hz2⟩ := List.any_eq_true.1 h
    refine List.any_eq_true.2 ⟨z, List.mem_filter.2 ⟨(List.mem_filter.1 hz).1, ?_⟩, hz2⟩
    have := (List.mem_filter.1 hz).2
    simp at this ⊢
    exact this.1
  · rw [if_neg h, if_neg h]
theorem closed_congr (q1 q2 : PS → Bool) (h : ∀ x ∈ T.l, q1 x = q2 x) : T.closed q1 = T.closed q2 := by
  have hl : T.l.filter (fun x => !q1 x) = T.l.filter (fun x => !q2 x) := List.filter_congr fun x hx => by rw [h x hx]
  unfold PT.closed
  rw [hl]
theorem Rel.closeList (conn : Int) : ∀ (hs : List Int) (T : PT) (R : RP), Rel T R → hs.Pairwise (· ≠ ·) → (∀ hh ∈ hs, ∃ x ∈ T.l, x.h = hh ∧ x.c = conn) → Rel (T.closed fun x => hs.contains x.h) (R.closeList conn hs)
  | [], T, R, h, _, _ => by
    have : (T.closed fun x => ([] : List Int).contains x.h) = T := by
      have hl : T.l.filter (fun x => !([] : List Int).contains x.h) = T.l := by
        rw [List.filter_eq_self]; intro x _; rfl
      unfold PT.closed
      rw [hl]
      obtain ⟨l, last, who, n⟩ := T
      simp only [PT.mk.injEq, true_and, and_true]
      funext a b
      by_cases ho : l.any (fun x => decide (x.c = a ∧ x.s = b)) = true
      · rw [if_pos ho]
      · rw [if_neg ho]
        cases hw : who a b with
        | none => rfl
        | some u => exact absurd (h.op a b (by show (who a b).isSome = true; rw [hw]; rfl)) ho
    rw [this]
    exact h
  | hh :: hs, T, R, h, hp, hin => by
    rw [List.pairwise_cons] at hp
    have h1 := (h.close1 conn hh).2
    have hT : (T.closeW conn hh).2 = T.closed fun x => decide (x.h = hh) := by
      obtain ⟨x, hx, e1, e2⟩ := hin hh (by simp)
      unfold PT.closeW PT.seek
      cases hs : T.l.find? (fun x => decide (x.h = hh ∧ x.c = conn)) with
      | none =>
        have := List.find?_eq_none.1 hs x hx
        simp [e1, e2] at this
      | some x => rfl
    rw [hT] at h1
    have h2 := Rel.closeList conn hs _ _ h1 hp.2 (fun h' hm => by
      obtain ⟨x, hx, e1, e2⟩ := hin h' (by simp [hm])
      refine ⟨x, List.mem_filter.2 ⟨hx, ?_⟩, e1, e2⟩
      have := hp.1 h' hm
      simp
      omega)
    rw [closed_closed] at h2
    have : (T.closed fun x => decide (x.h = hh) || hs.contains x.h) = T.closed fun x => (hh :: hs).contains x.h := by
      congr 1
    rw [this] at h2
    exact h2
theorem Rel.closeAll (h : Rel T R) (conn slot : Int) : Rel (T.closed (isOf conn slot)) (R.closeAllW conn slot).2 := by
  unfold RP.closeAllW
  simp only
  rw [h.l]
  have h1 := Rel.closeList conn ((T.l.filter (isOf conn slot)).map PS.h) T R h (by
    rw [List.pairwise_map]
    exact h.uniq.filter _) (fun hh hm => by
    obtain ⟨x, hx, e⟩ := List.mem_map.1 hm
    obtain ⟨hx1, hx2⟩ := List.mem_filter.1 hx
    unfold isOf at hx2
    simp at hx2
    exact ⟨x, hx1, e, hx2.1⟩)
  have h2 : (T.closed fun x => ((T.l.filter (isOf conn slot)).map PS.h).contains x.h) = T.closed (isOf conn slot) := by
    refine closed_congr _ _ fun x hx => ?_
    cases hq : isOf conn slot x with
    | true =>
      rw [List.contains_iff_mem]
      exact List.mem_map.2 ⟨x, List.mem_filter.2 ⟨hx, hq⟩, rfl⟩
    | false =>
      rw [Bool.eq_false_iff]
      intro hc
      rw [List.contains_iff_mem] at hc
      obtain ⟨z, hz, e⟩ := List.mem_map.1 hc
      obtain ⟨hz1, hz2⟩ := List.mem_filter.1 hz
      have : z = x := by
        rcases Classical.em (z = x) with e2 | e2
        · exact e2
        · exfalso
          rcases List.mem_iff_getElem.1 hz1 with ⟨i, hi, rfl⟩
          rcases List.mem_iff_getElem.1 hx with ⟨j, hj, rfl⟩
          have hij : i ≠ j := fun e3 => e2 (by subst e3; rfl)
          rcases Nat.lt_or_gt_of_ne hij with h3 | h3
          · exact List.pairwise_iff_getElem.1 h.uniq i j hi hj h3 e
          · exact List.pairwise_iff_getElem.1 h.uniq j i hj hi h3 e.symm
      rw [this, hq] at hz2
      cases hz2
  rw [h2] at h1
  exact h1
end
end Go.Proofs.Ytnpncbpbeikcaaa
