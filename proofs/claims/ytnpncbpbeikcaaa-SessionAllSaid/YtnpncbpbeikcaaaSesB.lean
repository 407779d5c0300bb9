/-
  The two tables side by side: their blocks apart, their counts bounded.
-/
import Derived.Test.YtnpncbpbeikcaaaSesQ
namespace Go.Proofs.Ytnpncbpbeikcaaa
open Go.RowKit Go.Maps

theorem Tb.keepS {W W' : World} {B p : Nat} {S S2 : List Nat} {T : PT} (h : Tb W B p S T) (ht : Turn S2 W W') (hd : ∀ x ∈ S, x ∉ S2) : Tb W' B p S T := by
  obtain ⟨A, m, c, mb, hT, rfl⟩ := h
  exact ⟨A, m, c, mb, hT.keep ht (hd _ (by simp [blocks])) (hd _ (by simp [blocks])) (fun g hg => hd _ (by simp [blocks, hg])), rfl⟩
theorem blk_ne {W : World} {g : Nat} {t t' : TypeId} {cs cs' : Array Value} (h : Blk W g t cs) (h' : Blk W g t' cs') (hne : t ≠ t') : False := by
  have e := (show W.heap[g]? = _ from h).symm.trans h'
  injection e with e
  injection e with _ e
  exact hne e
/-- The blocks of the two tables are apart: by their types. -/
theorem Tb.apart {W : World} {B p B2 r : Nat} {S S2 : List Nat} {T : PT} {R : RP} (h : Tb W B p S T) (h2 : Rb W B2 r S2 R) : ∀ x ∈ S, x ∉ S2 := by
  obtain ⟨A, m, c, mb, hT, rfl⟩ := h
  obtain ⟨A1, m1, c1, A2, m2, c2, hR, rfl⟩ := h2
  have hr : ∀ x ∈ rblocks A1 m1 c1 A2 m2 c2 r, ∃ t cs, Blk W x t cs ∧ t ≠ 54 ∧ t ≠ Try.eS.t := by
    intro x hx
    unfold rblocks at hx
    rcases List.mem_cons.1 hx with e | e
    · subst e; exact ⟨_, _, hR.blk, by decide, by decide⟩
    · rcases List.mem_append.1 e with e | e
      · obtain ⟨cs, hcs⟩ := hR.row.blk (g := x) (by simpa using e)
        exact ⟨_, _, hcs, by decide, by decide⟩
      · obtain ⟨cs, hcs⟩ := hR.who.blk (g := x) (by simpa using e)
        exact ⟨_, _, hcs, by decide, by decide⟩
  intro x hx hx2
  obtain ⟨t, cs, hb, n1, n2⟩ := hr x hx2
  unfold blocks at hx
  rcases List.mem_cons.1 hx with e | hx
  · subst e; exact blk_ne hb hT.blk n1
  · rcases List.mem_cons.1 hx with e | hx
    · subst e; exact hT.map.ne hb rfl
    · obtain ⟨cs', hb'⟩ := hT.row.blk (g := x) (by simpa using hx)
      exact blk_ne hb hb' n2
structure Al (w : World) (X r : Nat) (W : World) (S S2 : List Nat) (T : PT) (R : RP) : Prop where
  tb : Tb W X (X + 1) S T
  rb : Rb W r r S2 R
  bel : Below w.heap.size w W
  hX : w.heap.size ≤ X
  hr : w.heap.size ≤ r
section
variable {w W W' : World} {X r : Nat} {S S2 S' : List Nat} {T T' : PT} {R R' : RP}
theorem Al.b (h : Al w X r W S S2 T R) (hb : Below W.heap.size W W') : Al w X r W' S S2 T R := ⟨h.tb.below hb, h.rb.below hb, h.bel.trans (hb.mono h.bel.size), h.hX, h.hr⟩
theorem Al.tt (h : Al w X r W S S2 T R) (hT : Tb W' X (X + 1) S' T') (ht : Turn S W W') : Al w X r W' S' S2 T' R :=
  ⟨hT, h.rb.keep ht (fun x hx hm => h.tb.apart h.rb x hm hx), below_turn h.bel ht (fun x hx => by have := (h.tb.ge x hx).1; have := h.hX; omega) h.bel.size, h.hX, h.hr⟩
theorem Al.rr (h : Al w X r W S S2 T R) (hR : Rb W' r r S' R') (ht : Turn S2 W W') : Al w X r W' S S' T R' :=
  ⟨h.tb.keepS ht (h.tb.apart h.rb), hR, below_turn h.bel ht (fun x hx => by have := (h.rb.ge x hx).1; have := h.hr; omega) h.bel.size, h.hX, h.hr⟩
/-- A block of another's, kept over a turn of the table. -/
theorem Al.boxT (h : Al w X r W S S2 T R) (ht : Turn S W W') {Z : Nat} {t : TypeId} {cs : Array Value} (hb : Blk W Z t cs) (hn : t ≠ 54) (hn2 : t ≠ Try.eS.t) : Blk W' Z t cs := by
  refine hb.turn ht (fun hm => ?_)
  obtain ⟨A, m, c, mb, hT, rfl⟩ := h.tb
  unfold blocks at hm
  rcases List.mem_cons.1 hm with e | hm
  · subst e; exact blk_ne hb hT.blk hn
  · rcases List.mem_cons.1 hm with e | hm
    · subst e; exact hT.map.ne hb rfl
    · obtain ⟨cs', hb'⟩ := hT.row.blk (g := Z) (by simpa using hm)
      exact blk_ne hb hb' hn2
theorem Al.boxR (h : Al w X r W S S2 T R) (ht : Turn S2 W W') {Z : Nat} {t : TypeId} {cs : Array Value} (hb : Blk W Z t cs) (hn : t ≠ 30) (hn2 : t ≠ Try.eR.t) (hn3 : t ≠ Try.eL.t) : Blk W' Z t cs := by
  refine hb.turn ht (fun hm => ?_)
  obtain ⟨A, m, c, A2, m2, c2, hR, rfl⟩ := h.rb
  unfold rblocks at hm
  rcases List.mem_cons.1 hm with e | hm
  · subst e; exact blk_ne hb hR.blk hn
  · rcases List.mem_append.1 hm with e | e
    · obtain ⟨cs', hb'⟩ := hR.row.blk (g := Z) (by simpa using e)
      exact blk_ne hb hb' hn2
    · obtain ⟨cs', hb'⟩ := hR.who.blk (g := Z) (by simpa using e)
      exact blk_ne hb hb' hn3
end
/-- The counts: no more than the operations so far. -/
structure Bnd (T : PT) (R : RP) (k : Nat) : Prop where
  l0 : 0 ≤ T.last
  l1 : T.last ≤ k
  n : T.n ≤ k
  who : R.who.length ≤ k
section
variable {T : PT} {R : RP} {k : Nat}
theorem Bnd.more (h : Bnd T R k) : Bnd T R (k + 1) := ⟨h.l0, by have := h.l1; omega, by have := h.n; omega, by have := h.who; omega⟩
theorem ropen_who (R : RP) (a b : Int) (rw_ : Bool) : (R.openW a b rw_).2.2.who = R.who := by
  unfold RP.openW
  repeat' split
  all_goals rfl
theorem Bnd.opened (h : Bnd T R k) (a b : Int) (rw_ : Bool) : Bnd (T.openW a b rw_).2.2 (R.openW a b rw_).2.2 (k + 1) := by
  have h1 := h.l0; have h2 := h.l1; have h3 := h.n; have h4 := h.who
  refine ⟨?_, ?_, ?_, by rw [ropen_who]; omega⟩
  all_goals
    unfold PT.openW
    repeat' split
    all_goals (try unfold PT.added); simp only []; omega
theorem out_len (R : RP) (a b : Int) : (R.out a b).who.length ≤ R.who.length := List.length_filter_le _ _
theorem rlogout_len (R : RP) (a b : Int) : (R.logoutW a b).2.who.length ≤ R.who.length := by
  unfold RP.logoutW
  split
  · exact Nat.le_refl _
  · exact out_len _ _ _
theorem Bnd.loggedout (h : Bnd T R k) (a b : Int) : Bnd (T.logoutW a b).2 (R.logoutW a b).2 (k + 1) := by
  have h1 := h.l0; have h2 := h.l1; have h3 := h.n; have h4 := h.who; have h5 := rlogout_len R a b
  refine ⟨?_, ?_, ?_, by omega⟩
  all_goals
    unfold PT.logoutW
    split <;> (first | omega | (simp only []; omega))
theorem Bnd.loggedin (h : Bnd T R k) (a b u : Int) : Bnd (T.loginW a b u) (R.loginW a b u) (k + 1) := by
  have h1 := h.l0; have h2 := h.l1; have h3 := h.n; have h4 := h.who
  refine ⟨?_, ?_, ?_, ?_⟩
  · unfold PT.loginW; split <;> (first | omega | (simp only []; omega))
  · unfold PT.loginW; split <;> (first | omega | (simp only []; omega))
  · unfold PT.loginW; split <;> (first | omega | (simp only []; omega))
  · unfold RP.loginW
    split
    · simp only [List.length_append, List.length_singleton]; omega
    · omega
theorem rclose_len (R : RP) (conn hh : Int) : (R.closeW conn hh).2.who.length ≤ R.who.length := by
  unfold RP.closeW
  split
  · exact Nat.le_refl _
  · split
    · exact Nat.le_refl _
    · exact List.length_filter_le _ _
theorem rcloseList_len (conn : Int) : ∀ (hs : List Int) (R : RP), (R.closeList conn hs).who.length ≤ R.who.length
  | [], _ => Nat.le_refl _
  | h :: hs, R => by
    unfold RP.closeList
    exact Nat.le_trans (rcloseList_len conn hs _) (rclose_len R conn h)
theorem Bnd.shut (h : Bnd T R k) (q : PS → Bool) {R' : RP} (hR : R'.who.length ≤ R.who.length) : Bnd (T.closed q) R' (k + 1) :=
  ⟨h.l0, by have := h.l1; show T.last ≤ _; omega, by have := h.n; show T.n ≤ _; omega, by have := h.who; omega⟩
theorem Bnd.close1 (h : Bnd T R k) (conn hh : Int) : Bnd (T.closeW conn hh).2 (R.closeW conn hh).2 (k + 1) := by
  have h1 := h.l0; have h2 := h.l1; have h3 := h.n; have h4 := h.who; have h5 := rclose_len R conn hh
  refine ⟨?_, ?_, ?_, by omega⟩
  all_goals
    unfold PT.closeW
    split
    · simp only []; omega
    · simp only [PT.closed]; omega
end
/-- Kind 3: all of a connection is CloseAll with the slot -1. -/
theorem drop_all (T : PT) (conn : Int) : T.l.filter (isOf conn (-1)) = T.l.filter (fun x => decide (x.c = conn)) := by
  congr 1
  funext x
  simp [isOf]
theorem slot_all (T : PT) (conn slot : Int) (hs : ¬ slot < 0) : T.l.filter (isOf conn slot) = T.l.filter (fun x => decide (x.c = conn ∧ x.s = slot)) := by
  congr 1
  funext x
  have : slot ≠ -1 := by omega
  simp [isOf, this]
theorem Rel.drop {T : PT} {R : RP} (h : Rel T R) (conn : Int) : (R.closeAllW conn (-1)).1 = (T.l.filter (fun x => decide (x.c = conn))).map PS.h ∧ Rel (T.closed fun x => decide (x.c = conn)) (R.closeAllW conn (-1)).2 := by
  refine ⟨by unfold RP.closeAllW; simp only []; rw [h.l, drop_all], ?_⟩
  have := h.closeAll conn (-1)
  rw [closed_congr (isOf conn (-1)) (fun x => decide (x.c = conn)) (fun x _ => by simp [isOf])] at this
  exact this
theorem Rel.gone {T : PT} {R : RP} (h : Rel T R) (conn slot : Int) (hs : ¬ slot < 0) : (R.closeAllW conn slot).1 = (T.l.filter (fun x => decide (x.c = conn ∧ x.s = slot))).map PS.h ∧ Rel (T.closed fun x => decide (x.c = conn ∧ x.s = slot)) (R.closeAllW conn slot).2 := by
  refine ⟨by unfold RP.closeAllW; simp only []; rw [h.l, slot_all T conn slot hs], ?_⟩
  have := h.closeAll conn slot
  have hn : slot ≠ -1 := by omega
  rw [closed_congr (isOf conn slot) (fun x => decide (x.c = conn ∧ x.s = slot)) (fun x _ => by simp [isOf, hn])] at this
  exact this
theorem rcloseAll_len (R : RP) (conn slot : Int) : (R.closeAllW conn slot).2.who.length ≤ R.who.length := rcloseList_len _ _ _
/-- The reference's table as the law lays it. -/
theorem Rb.new {W : World} {r : Nat} (h : Blk W r 30 #[.slice none 0 0, .int .i64 0, .slice none 0 0]) : Rb W r r [r] ⟨[], 0, []⟩ :=
  ⟨none, 0, 0, none, 0, 0, ⟨h, OwnE.nil _ _, OwnE.nil _ _, Nat.le_refl _, by simp, by simp⟩, by simp [rblocks, Value.ownBlock]⟩
end Go.Proofs.Ytnpncbpbeikcaaa
