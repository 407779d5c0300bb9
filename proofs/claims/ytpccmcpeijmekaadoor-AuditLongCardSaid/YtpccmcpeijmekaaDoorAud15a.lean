/-
  The law AuditLong, walked: a log of many lines is taken whole; its front is, too; its lines are the entries.
-/
import Derived.Test.YtpccmcpeijmekaaDoorAud12
namespace Go.Proofs.YtpccmcpeijmekaaDoor
open Go.RowKit
attribute [local go_sem] Oper.semAt_some

/-- The entries of a long log. -/
def longE (T F R L k : Nat) : List Ent := (List.range k).map fun i => ⟨0, T, F + i, R, L⟩
theorem longE_succ (T F R L k : Nat) : longE T F R L (k + 1) = longE T F R L k ++ [⟨0, T, F + k, R, L⟩] := by simp [longE, List.range_succ]
theorem longE_len (T F R L k : Nat) : (longE T F R L k).length = k := by simp [longE]
theorem longE_take (T F R L k c : Nat) (h : c ≤ k) : (longE T F R L k).take c = longE T F R L c := by
  unfold longE
  rw [← List.map_take, List.take_range, Nat.min_eq_left h]
theorem longE_at (T F R L k i : Nat) (h : i < k) : (longE T F R L k)[i]? = some ⟨0, T, F + i, R, L⟩ := by simp [longE, h]
theorem longE_ok (T F R L k : Nat) (hT : T < 9223372036854775808) (hF : F + k ≤ 65536) (hR : R < 4294967296) (hL : L < 65536) : ∀ e ∈ longE T F R L k, e.ok := by
  intro e he
  obtain ⟨i, hi, rfl⟩ := List.mem_map.1 he
  have := List.mem_range.1 hi
  exact ⟨hT, by simp only; omega, hR, hL⟩
theorem longE_chain (T F R L k : Nat) : chainOf (rof 3) (longE T F R L (k + 1)) = addLine (rof 3) (chainOf (rof 3) (longE T F R L k)) ⟨0, T, F + k, R, L⟩ := by
  rw [longE_succ]
  unfold chainOf
  rw [List.foldl_append]
  rfl
theorem res_cell0 {fn : Func} {p : Tmp} {tmps : Array Value} {w : World} {g : Nat} {x : Bool} (h : fn.results = #[.cell p 4]) (hp : tmps.getD p undef = .pointer (some ⟨g, 0, none⟩)) (hb : Blk w g 4 #[.bool x]) :
    (results fn tmps).run Tryd.prog w = .ok (.bool x) w := res_cell h hp hb
/-- What stands at every place of the law: the entry's box and the answer's cell. -/
structure LgB (w : World) (s t f r l : Int) (W : World) : Prop where
  box : Blk W w.heap.size 29 (entC s t f r l)
  ans : Blk W (w.heap.size + 1) 4 #[.bool false]
  old : Old w W
theorem LgB.turn {w W W' : World} {s t f r l : Int} {S : List Nat} (h : LgB w s t f r l W) (ht : Turn S W W') (hS : ∀ x ∈ S, w.heap.size + 1 < x) : LgB w s t f r l W' :=
  ⟨h.box.turn ht (fun hm => by have := hS _ hm; omega), h.ans.turn ht (fun hm => by have := hS _ hm; omega), h.old.turned ht (fun x hm => by have := hS _ hm; omega)⟩
theorem LgB.below {w W W' : World} {s t f r l : Int} (h : LgB w s t f r l W) (hb : Old W W') : LgB w s t f r l W' := h.turn (Turn.of_below [] hb) (by simp)
theorem LgB.cells {w W : World} {s t f r l : Int} (h : LgB w s t f r l W) : W.cell? ⟨w.heap.size, 0, none⟩ = some (.int .i64 s) ∧ W.cell? ⟨w.heap.size, 1, none⟩ = some (.int .i64 t) ∧ W.cell? ⟨w.heap.size, 2, none⟩ = some (.int .i64 f) ∧ W.cell? ⟨w.heap.size, 3, none⟩ = some (.int .i64 r) ∧ W.cell? ⟨w.heap.size, 4, none⟩ = some (.int .i64 l) ∧ W.cell? ⟨w.heap.size + 1, 0, none⟩ = some (.bool false) ∧ W.frozen? ⟨w.heap.size + 1, 0, none⟩ = false :=
  ⟨h.box.cell 0, h.box.cell 1, h.box.cell 2, h.box.cell 3, h.box.cell 4, h.ans.cell 0, h.ans.frozen 0⟩
theorem LgB.first (w : World) (s t f r l : Int) : LgB w s t f r l ((w.alloc (.cells (entC s t f r l) 29)).alloc (.cells #[.bool false] 4)) :=
  ⟨(Blk.new w _ _).alloc _, by have := Blk.new (w.alloc (.cells (entC s t f r l) 29)) 4 #[.bool false]; simpa using this, Old.alloc (Old.alloc (Old.refl _) _) _⟩
theorem LgB.say {w W : World} {s t f r l : Int} (h : LgB w s t f r l W) : Blk (W.setCell ⟨w.heap.size + 1, 0, none⟩ (.bool true)) (w.heap.size + 1) 4 #[.bool true] ∧ Old w (W.setCell ⟨w.heap.size + 1, 0, none⟩ (.bool true)) :=
  ⟨h.ans.set_ 0 _, Below.setCell h.old (by simp) _⟩

set_option maxRecDepth 100000 in
set_option maxHeartbeats 4000000 in
theorem auditLong_no (n cut s t f r l : Int) (w : World) (hK : KAt w)
    (hno : ¬ (0 ≤ n ∧ n ≤ 150 ∧ 0 ≤ cut ∧ cut ≤ n ∧ 0 ≤ f ∧ f ≤ 65000 ∧ 0 ≤ l ∧ l ≤ 65535 ∧ 0 ≤ r ∧ r ≤ 2147483648 ∧ 0 ≤ t)) :
    Calls Tryd.prog 5 #[.int .i64 n, .int .i64 cut, .agg #[.int .i64 s, .int .i64 t, .int .i64 f, .int .i64 r, .int .i64 l]] w (LawRes w) := by
  have H0 := Lib.hid (And.intro (LgB.first w s t f r l) hK)
  have hcase : (n < 0) ∨ (0 ≤ n ∧ 150 < n) ∨ (0 ≤ n ∧ n ≤ 150 ∧ cut < 0) ∨ (0 ≤ n ∧ n ≤ 150 ∧ 0 ≤ cut ∧ n < cut) ∨ (0 ≤ n ∧ n ≤ 150 ∧ 0 ≤ cut ∧ cut ≤ n ∧ f < 0) ∨ (0 ≤ n ∧ n ≤ 150 ∧ 0 ≤ cut ∧ cut ≤ n ∧ 0 ≤ f ∧ 65000 < f) ∨ (0 ≤ n ∧ n ≤ 150 ∧ 0 ≤ cut ∧ cut ≤ n ∧ 0 ≤ f ∧ f ≤ 65000 ∧ l < 0) ∨ (0 ≤ n ∧ n ≤ 150 ∧ 0 ≤ cut ∧ cut ≤ n ∧ 0 ≤ f ∧ f ≤ 65000 ∧ 0 ≤ l ∧ 65535 < l) ∨ (0 ≤ n ∧ n ≤ 150 ∧ 0 ≤ cut ∧ cut ≤ n ∧ 0 ≤ f ∧ f ≤ 65000 ∧ 0 ≤ l ∧ l ≤ 65535 ∧ r < 0) ∨ (0 ≤ n ∧ n ≤ 150 ∧ 0 ≤ cut ∧ cut ≤ n ∧ 0 ≤ f ∧ f ≤ 65000 ∧ 0 ≤ l ∧ l ≤ 65535 ∧ 0 ≤ r ∧ 2147483648 < r) ∨ (0 ≤ n ∧ n ≤ 150 ∧ 0 ≤ cut ∧ cut ≤ n ∧ 0 ≤ f ∧ f ≤ 65000 ∧ 0 ≤ l ∧ l ≤ 65535 ∧ 0 ≤ r ∧ r ≤ 2147483648 ∧ t < 0) := by
    clear H0
    by_cases h1 : 0 ≤ n
    rotate_left
    · have g : n < 0 := by omega
      exact Or.inl <| g
    by_cases h2 : n ≤ 150
    rotate_left
    · have g : 150 < n := by omega
      exact Or.inr <| Or.inl <| ⟨h1, g⟩
    by_cases h3 : 0 ≤ cut
    rotate_left
    · have g : cut < 0 := by omega
      exact Or.inr <| Or.inr <| Or.inl <| ⟨h1, h2, g⟩
    by_cases h4 : cut ≤ n
    rotate_left
    · have g : n < cut := by omega
      exact Or.inr <| Or.inr <| Or.inr <| Or.inl <| ⟨h1, h2, h3, g⟩
    by_cases h5 : 0 ≤ f
    rotate_left
    · have g : f < 0 := by omega
      exact Or.inr <| Or.inr <| Or.inr <| Or.inr <| Or.inl <| ⟨h1, h2, h3, h4, g⟩
    by_cases h6 : f ≤ 65000
    rotate_left
    · have g : 65000 < f := by omega
      exact Or.inr <| Or.inr <| Or.inr <| Or.inr <| Or.inr <| Or.inl <| ⟨h1, h2, h3, h4, h5, g⟩
    by_cases h7 : 0 ≤ l
    rotate_left
    · have g : l < 0 := by omega
      exact Or.inr <| Or.inr <| Or.inr <| Or.inr <| Or.inr <| Or.inr <| Or.inl <| ⟨h1, h2, h3, h4, h5, h6, g⟩
    by_cases h8 : l ≤ 65535
    rotate_left
    · have g : 65535 < l := by omega
      exact Or.inr <| Or.inr <| Or.inr <| Or.inr <| Or.inr <| Or.inr <| Or.inr <| Or.inl <| ⟨h1, h2, h3, h4, h5, h6, h7, g⟩
    by_cases h9 : 0 ≤ r
    rotate_left
    · have g : r < 0 := by omega
      exact Or.inr <| Or.inr <| Or.inr <| Or.inr <| Or.inr <| Or.inr <| Or.inr <| Or.inr <| Or.inl <| ⟨h1, h2, h3, h4, h5, h6, h7, h8, g⟩
    by_cases h10 : r ≤ 2147483648
    rotate_left
    · have g : 2147483648 < r := by omega
      exact Or.inr <| Or.inr <| Or.inr <| Or.inr <| Or.inr <| Or.inr <| Or.inr <| Or.inr <| Or.inr <| Or.inl <| ⟨h1, h2, h3, h4, h5, h6, h7, h8, h9, g⟩
    by_cases h11 : 0 ≤ t
    rotate_left
    · have g : t < 0 := by omega
      exact Or.inr <| Or.inr <| Or.inr <| Or.inr <| Or.inr <| Or.inr <| Or.inr <| Or.inr <| Or.inr <| Or.inr <| ⟨h1, h2, h3, h4, h5, h6, h7, h8, h9, h10, g⟩
    exact absurd ⟨h1, h2, h3, h4, h5, h6, h7, h8, h9, h10, h11⟩ hno
  clear hno hK
  refine calls_of_marks Tryd.func5 rfl ?_
  simp only [Tryd.ntmps5, List.size_toArray, List.length_cons, List.length_nil, Nat.reduceAdd, Nat.reduceSub, Array.replicate_succ, Array.replicate_zero, List.push_toArray, List.append_toArray, List.nil_append, List.cons_append]
  go_wp2_with fail
  refine (begun_any _ (H0.out.2.below H0.out.1.old)).mono ?_
  rintro en w1 ⟨rfl, hb1⟩
  have H1 := Lib.hid (H0.out.1.below hb1)
  clear hb1
  obtain ⟨c0, c1, c2, c3, c4, c5, f5⟩ := H1.out.cells
  rcases hcase with h1 | ⟨h1, h2⟩ | ⟨h1, h2, h3⟩ | ⟨h1, h2, h3, h4⟩ | ⟨h1, h2, h3, h4, h5⟩ | ⟨h1, h2, h3, h4, h5, h6⟩ | ⟨h1, h2, h3, h4, h5, h6, h7⟩ | ⟨h1, h2, h3, h4, h5, h6, h7, h8⟩ | ⟨h1, h2, h3, h4, h5, h6, h7, h8, h9⟩ | ⟨h1, h2, h3, h4, h5, h6, h7, h8, h9, h10⟩ | ⟨h1, h2, h3, h4, h5, h6, h7, h8, h9, h10, h11⟩
  all_goals
    go_wp2_with fail
    obtain ⟨hb, ho⟩ := H1.out.say
    exact ret_bare rfl (res_cell rfl rfl hb) ⟨rfl, ho⟩
end Go.Proofs.YtpccmcpeijmekaaDoor
