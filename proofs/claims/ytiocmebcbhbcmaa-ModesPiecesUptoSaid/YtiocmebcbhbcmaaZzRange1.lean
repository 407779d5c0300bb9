/-
  'baileylaw6.ModesNone' returns true: no stream is over and gives nothing. No condition.
  Modes: the pieces that come out of parts, plainly; what the iterator over them holds.
  A range over a function whose argument is assigned to a slot.
-/
import Derived.Test.YtiocmebcbhbcmaaZzMb1
import Derived.Test.YtiocmebcbhbcmaaZzMw5
import Derived.Test.YtiocmebcbhbcmaaZzRange
import Derived.RangeFuncBound
import Derived.RangeFuncCalls
import Derived.OwnWalkIn
import Derived.TacticsInMore
import Derived.LoopNIn
import Derived.LoopIn
import Derived.Lib.SlBytesConst
import Derived.Test.YtiocmebcbhbcmaaZzMoE
import Derived.Test.YtiocmebcbhbcmaaZzMr1
import Derived.Test.YtiocmebcbhbcmaaZzMw6
namespace Go.Proofs.Ytiocmebcbhbcmaa
set_option maxRecDepth 100000
open Go.RowKit
attribute [local go_sem] Oper.semAt_some

theorem seqNN (w : World) : (binOp .eql 45 .nilFunc .nilFunc).run Try.prog w = .ok (.bool true) w := by kernel_rfl
theorem seqFN (f : FuncId) (lb : Array Value) (w : World) : (binOp .eql 45 (.func (.func f) #[] lb) .nilFunc).run Try.prog w = .ok (.bool false) w := by kernel_rfl
theorem pieces_nil (S : Option Addr) (w : World) : Calls Try.prog 24 #[.pointer S, .nilFunc] w fun e w' =>
    e = .returned (.func (.func 53) #[] #[.pointer (some ⟨w.heap.size + 1, 0, none⟩), .pointer (some ⟨w.heap.size, 0, none⟩)]) ∧ (w.alloc (.cells #[.pointer S] 31)).alloc (.cells #[.nilFunc] 45) = w' := by
  go_enter Try.func24, Try.ntmps24
  go_wp2
  go_ret
  exact ⟨rfl, rfl⟩
theorem pieces_fn (S : Option Addr) (gf : FuncId) (lb : Array Value) (w : World) : Calls Try.prog 24 #[.pointer S, .func (.func gf) #[] lb] w fun e w' =>
    e = .returned (.func (.func 53) #[] #[.pointer (some ⟨w.heap.size + 1, 0, none⟩), .pointer (some ⟨w.heap.size, 0, none⟩)]) ∧ (w.alloc (.cells #[.pointer S] 31)).alloc (.cells #[.func (.func gf) #[] lb] 45) = w' := by
  go_enter Try.func24, Try.ntmps24
  go_wp2
  go_ret
  exact ⟨rfl, rfl⟩
/-- The iterator over no parts makes no round. -/
theorem pieces_none (bp bs : Nat) : Iter Try.prog 53 #[.pointer (some ⟨bp, 0, none⟩), .pointer (some ⟨bs, 0, none⟩)] (fun _ args _ => args.size = 1) (fun _ W => W.cell? ⟨bp, 0, none⟩ = some .nilFunc ∧ bp < W.heap.size) 0 [] := by
  intro l J Jx W hJ hJx hY h0 hM
  refine callsIn_wide.2 (calls_of_marks Try.func53 rfl ?_)
  simp only [Try.ntmps53, List.size_toArray, List.length_cons, List.length_nil, Nat.reduceAdd, Nat.reduceSub, Array.replicate_succ, Array.replicate_zero, List.push_toArray, List.append_toArray, List.nil_append, List.cons_append]
  have hc := (cell_turn hM.1 ((Turn.refl [] W).alloc (.cells #[.func (.yield l) #[] #[]] 60)) (by simp))
  have hJ1 := hJ 0 W _ h0 ((Turn.refl [] W).alloc (.cells #[.func (.yield l) #[] #[]] 60))
  have HJ := Lib.hid hJ1
  have hn := seqNN
  clear hJ hJx hY h0 hM hJ1
  go_wp2_with fail
  refine ret_bare rfl (results_none rfl _ _ _) ?_
  exact ⟨⟨_, rfl⟩, .inl HJ.out⟩
set_option maxHeartbeats 4000000 in
theorem modesNone_walk (w : World) : Calls Try.prog 9 #[] w fun e w' => e = .returned (.bool true) ∧ Old w w' := by
  refine calls_of_marks Try.func9 rfl ?_
  simp only [Try.ntmps9, List.size_toArray, List.length_cons, List.length_nil, Nat.reduceAdd, Nat.reduceSub, Array.replicate_succ, Array.replicate_zero, List.push_toArray, List.append_toArray, List.nil_append, List.cons_append]
  have hne := seqFN
  have kc := fun (w : World) (C : Array Value) (n c : Nat) => Lib.run_convert_bytes_const (P := Try.prog) w 22 5 C n c Try.underlying22 Try.underlying5
  go_wp2_with (first
    | (go_at_call 21; (with_reducible refine (final_nil _).mono ?_); rintro e w' ⟨rfl, rfl⟩)
    | (go_at_call 24; (with_reducible refine (pieces_nil none _).mono ?_); rintro e w5 ⟨rfl, rfl⟩))
  have hal : Old w (((w.alloc (.cells #[.pointer none] 31)).alloc (.cells #[.nilFunc] 45)).alloc (.cells #[.int .i64 0] 3)) := (((Old.refl w).alloc _).alloc _).alloc _
  have hk5 : Blk (((w.alloc (.cells #[.pointer none] 31)).alloc (.cells #[.nilFunc] 45)).alloc (.cells #[.int .i64 0] 3)) (w.heap.size + 1 + 1) 3 #[.int .i64 0] := by
    have := Blk.new ((w.alloc (.cells #[.pointer none] 31)).alloc (.cells #[.nilFunc] 45)) 3 #[.int .i64 0]
    simpa using this
  have hbx5 : (((w.alloc (.cells #[.pointer none] 31)).alloc (.cells #[.nilFunc] 45)).alloc (.cells #[.int .i64 0] 3)).cell? ⟨w.heap.size + 1, 0, none⟩ = some .nilFunc := by
    have hb := (Blk.new (w.alloc (.cells #[.pointer none] 31)) 45 #[.nilFunc]).below ((Old.refl _).alloc (.cells #[.int .i64 0] 3))
    have := hb.cell 0
    simpa using this
  have hz5 : (((w.alloc (.cells #[.pointer none] 31)).alloc (.cells #[.nilFunc] 45)).alloc (.cells #[.int .i64 0] 3)).heap.size = w.heap.size + 3 := by simp
  revert hal hk5 hbx5 hz5
  generalize (((w.alloc (.cells #[.pointer none] 31)).alloc (.cells #[.nilFunc] 45)).alloc (.cells #[.int .i64 0] 3)) = w5
  intro hal hk5 hbx5 hz5
  refine wp_range0 (gf := 53) (lb := #[.pointer (some ⟨w.heap.size + 1, 0, none⟩), .pointer (some ⟨w.heap.size, 0, none⟩)]) rfl (fun _ _ => by kernel_rfl) (pieces_none (w.heap.size + 1) w.heap.size)
    (fun k args W h => h) (by simp) (fun k W => Blk W (w.heap.size + 1 + 1) 3 #[.int .i64 0] ∧ Old w W) (fun _ _ _ => False) ?hI (fun _ _ _ _ _ h => h.elim) ?hM ?hA ⟨hk5, hal⟩ ⟨hbx5, by omega⟩ ?hM1 ?hbody ?hdone ?hstop
  case hI =>
    rintro k W1 W2 S ⟨h1, h2⟩ ht hS
    have hS' : ∀ t ∈ S, t = w.heap.size + 4 := by
      intro t h
      rcases hS t h with h | ⟨h, _⟩
      · simp at h
      · omega
    exact ⟨h1.turn ht (fun h => by have := hS' _ h; omega), below_turn h2 ht (fun t h => by have := hS' _ h; omega) h2.size⟩
  case hM =>
    rintro k W1 W2 ⟨h1, h1'⟩ _ ht
    rw [hz5] at ht
    exact ⟨cell_turn h1 ht (by simp), by have := ht.size; omega⟩
  case hA => intro k args W1 W2 h _ _; exact h
  case hM1 => intro W ht; exact ⟨cell_turn hbx5 ht (by simp), by have := ht.size; omega⟩
  case hbody => intro l k args W hk; omega
  case hdone =>
    rintro W hlt ⟨h1, h2⟩ hK
    rw [hz5] at hlt hK ⊢
    go_wp2_with fail
    with_reducible refine (mbegun_any W).mono ?_
    rintro e W2 ⟨rfl, hb2⟩
    have hc := ((h1.below hb2).below ((Old.refl W2).alloc (.cells #[.int .u8 97] 5 (1, 2)))).cell 0
    simp at hc
    have hK2 := (hb2.block _ (by omega)).trans hK
    have hB2 := Old.trans h2 hb2
    have hz2 := hb2.size
    have hlt2 : w.heap.size + 3 < W2.heap.size := by omega
    clear h1 hK h2 hb2 hk5 hal hbx5
    go_wp2_with (first
      | (go_at_call 17; (with_reducible refine (update_nil _ _ _ _).mono ?_); rintro e w' ⟨rfl, rfl⟩)
      | (go_at_call 19; (with_reducible refine (holds_nil _).mono ?_); rintro e w' ⟨rfl, rfl⟩))
    refine ret_mark rfl (D := w.heap.size + 3) ((Below.heap_alloc W2 _ _ (by omega)).trans hK2) (fun W' => results_tmp rfl _ _ _) ⟨rfl, ?_⟩
    exact below_turn (hB2.alloc _) ((Turn.refl [w.heap.size + 3] _).putObj (.inl (by simp)) _) (by intro t h; simp at h; omega) (by simp; omega)
  case hstop => intro c k W _ _ h; exact h.elim
end Go.Proofs.Ytiocmebcbhbcmaa
namespace Go.Proofs.Ytiocmebcbhbcmaa
set_option maxRecDepth 100000
open Go.RowKit

/-- What a part gives. -/
def outF (s : PS) (al l : List UInt8) : List UInt8 := (s.front (al ++ l)).drop (s.front al).length
/-- The pieces that come out of the parts behind al. -/
def prs (s : PS) : List UInt8 → List (List UInt8) → List (List UInt8)
  | al, [] => if (s.fin al).2 = 0 ∧ (s.fin al).1 ≠ [] then [(s.fin al).1] else []
  | al, l :: ls => (if outF s al l = [] then [] else [outF s al l]) ++ prs s (al ++ l) ls
theorem prs_ne (s : PS) : ∀ (ls : List (List UInt8)) (al o : List UInt8), o ∈ prs s al ls → o ≠ []
  | [], al, o, h => by
    unfold prs at h
    split at h
    · rename_i h1
      rw [List.mem_singleton] at h
      rw [h]
      exact h1.2
    · cases h
  | l :: ls, al, o, h => by
    unfold prs at h
    rcases List.mem_append.1 h with h | h
    · split at h
      · cases h
      · rename_i h1
        rw [List.mem_singleton] at h
        rw [h]
        exact h1
    · exact prs_ne s ls (al ++ l) o h
theorem prs_flat (s : PS) (hpre : ∀ al l, s.front (al ++ l) = s.front al ++ outF s al l) : ∀ (ls : List (List UInt8)) (al : List UInt8), s.front al ++ (prs s al ls).flatten = s.front (al ++ ls.flatten) ++ (if (s.fin (al ++ ls.flatten)).2 = 0 then (s.fin (al ++ ls.flatten)).1 else [])
  | [], al => by
    unfold prs
    rw [List.flatten_nil, List.append_nil]
    by_cases h : (s.fin al).2 = 0
    · by_cases h2 : (s.fin al).1 = []
      · rw [if_neg (fun h' => h'.2 h2), if_pos h, h2]
        rfl
      · rw [if_pos ⟨h, h2⟩, if_pos h]
        simp
    · rw [if_neg (fun h' => h h'.1), if_neg h]
      rfl
  | l :: ls, al => by
    have ih := prs_flat s hpre ls (al ++ l)
    unfold prs
    rw [List.flatten_append, ← List.append_assoc, List.flatten_cons, ← List.append_assoc al, ← ih, hpre al l]
    congr 2
    split
    · rename_i h; rw [h]; rfl
    · simp
theorem front_pre (mo : Nat) (enc : Bool) (k p al l : List UInt8) (hk : keyOk k) (hp : parOk mo p) (h1 : 1 ≤ mo) (h5 : mo ≤ 5) : (PSof mo enc k p).front (al ++ l) = (PSof mo enc k p).front al ++ outF (PSof mo enc k p) al l := by
  have hx : ∃ X, (PSof mo enc k p).front (al ++ l) = (PSof mo enc k p).front al ++ X := by
    have hE := fun l hl => (encdec_len k hk l hl).1
    have hEn : ∀ l : List UInt8, l.length = 16 → (encL (rks k) ((rks k).length / 16)) l ≠ [] := fun l hl e => by
      have := hE l hl
      rw [e] at this
      cases this
    by_cases h4 : mo = 4
    · subst h4
      have hc := (PSof 4 enc k p).c0_len hp (.inl rfl)
      exact ⟨_, congrArg Prod.fst (cnt1_append _ _ hEn al l [] _ hc)⟩
    · by_cases h55 : mo = 5
      · subst h55
        have hc := (PSof 5 enc k p).c0_len hp (.inr rfl)
        cases enc
        · exact ⟨[], rfl⟩
        · exact ⟨_, congrArg Prod.fst (cnt1_append _ _ hEn al l [] _ hc)⟩
      · have hb := ((PSof mo enc k p).blk_add al l).1
        have hb' := congrArg Prod.fst hb
        rw [PS.front_blk _ h4 h55, PS.front_blk _ h4 h55]
        exact ⟨_, hb'⟩
  obtain ⟨X, hX⟩ := hx
  have : outF (PSof mo enc k p) al l = X := by unfold outF; rw [hX, List.drop_left]
  rw [this, hX]
/-- What the iterator over the pieces holds, al having come. -/
structure PI (w0 W : World) (s : PS) (d bp bs bx bY D : Nat) (A : Option Addr) (m c l : Nat) (al : List UInt8) (G Gs : List Nat) : Prop where
  str : StrAt W Gs d s al
  gs : ∀ x ∈ Gs, x ∈ G ∧ w0.heap.size ≤ x ∧ x < W.heap.size ∧ x ≠ bp ∧ x ≠ bs ∧ x ≠ bx ∧ x ≠ bY ∧ x ≠ D ∧ x ≠ D + 1
  own : bp ∈ G ∧ bs ∈ G ∧ bx ∈ G ∧ bY ∈ G ∧ D ∈ G ∧ D + 1 ∈ G
  ne : bp ≠ D ∧ bs ≠ D ∧ bx ≠ D ∧ bY ≠ D ∧ bp ≠ D + 1 ∧ bs ≠ D + 1 ∧ bx ≠ D + 1 ∧ bY ≠ D + 1
  b1 : Blk W bp 45 #[.func (.func 54) #[] #[.pointer (some ⟨bx, 0, none⟩)]]
  b2 : Blk W bs 31 #[.pointer (some ⟨d, 0, none⟩)]
  b3 : Blk W bx 30 #[.slice A m c]
  b4 : Blk W bY 60 #[.func (.yield l) #[] #[]]
  old : Old w0 W
  D0 : w0.heap.size ≤ D
  gb : ∀ x ∈ G, x < W.heap.size ∨ x = D ∨ x = D + 1
section
variable {w0 W W2 : World} {s : PS} {d bp bs bx bY D : Nat} {A : Option Addr} {m c l : Nat} {al : List UInt8} {G Gs : List Nat}
theorem PI.turn0 (h : PI w0 W s d bp bs bx bY D A m c l al G Gs) {S : List Nat} (ht : Turn S W W2) (hS : ∀ x ∈ S, x ∉ Gs ∧ x ≠ bp ∧ x ≠ bs ∧ x ≠ bx ∧ x ≠ bY ∧ w0.heap.size ≤ x) : PI w0 W2 s d bp bs bx bY D A m c l al G Gs :=
  ⟨h.str.turn ht (fun x hx => (hS x hx).1), fun x hx => by obtain ⟨a1, a2, a3, a4⟩ := h.gs x hx; exact ⟨a1, a2, Nat.lt_of_lt_of_le a3 ht.size, a4⟩, h.own, h.ne, h.b1.turn ht (fun hm => (hS _ hm).2.1 rfl), h.b2.turn ht (fun hm => (hS _ hm).2.2.1 rfl),
    h.b3.turn ht (fun hm => (hS _ hm).2.2.2.1 rfl), h.b4.turn ht (fun hm => (hS _ hm).2.2.2.2.1 rfl), below_turn h.old ht (fun t hm => (hS t hm).2.2.2.2.2) h.old.size, h.D0, fun x hx => (h.gb x hx).imp (fun h => Nat.lt_of_lt_of_le h ht.size) id⟩
/-- A round leaves all of it. -/
theorem PI.round (h : PI w0 W s d bp bs bx bY D A m c l al G Gs) {S : List Nat} (ht : Turn S W W2) (hS : ∀ x ∈ S, x ∉ G ∧ w0.heap.size ≤ x) : PI w0 W2 s d bp bs bx bY D A m c l al G Gs :=
  h.turn0 ht (fun x hx => ⟨fun hm => (hS x hx).1 (h.gs x hm).1, fun e => (hS x hx).1 (e ▸ h.own.1), fun e => (hS x hx).1 (e ▸ h.own.2.1), fun e => (hS x hx).1 (e ▸ h.own.2.2.1), fun e => (hS x hx).1 (e ▸ h.own.2.2.2.1), (hS x hx).2⟩)
/-- The inner loop's book-keeping. -/
theorem PI.book (h : PI w0 W s d bp bs bx bY D A m c l al G Gs) {S : List Nat} (ht : Turn S W W2) (hS : ∀ x ∈ S, x = D ∨ x = D + 1) : PI w0 W2 s d bp bs bx bY D A m c l al G Gs :=
  h.turn0 ht (fun x hx => by
    obtain ⟨n1, n2, n3, n4, n5, n6, n7, n8⟩ := h.ne
    have hD := h.D0
    rcases hS x hx with rfl | rfl
    · exact ⟨fun hm => (h.gs _ hm).2.2.2.2.2.2.2.1 rfl, fun e => n1 e.symm, fun e => n2 e.symm, fun e => n3 e.symm, fun e => n4 e.symm, hD⟩
    · exact ⟨fun hm => (h.gs _ hm).2.2.2.2.2.2.2.2 rfl, fun e => n5 e.symm, fun e => n6 e.symm, fun e => n7 e.symm, fun e => n8 e.symm, by omega⟩)
/-- A part is taken in. -/
theorem PI.upd (h : PI w0 W s d bp bs bx bY D A m c l al G Gs) {l2 : List UInt8} {G2 : List Nat} (hS : StrAt W2 G2 d s (al ++ l2)) (ht : Turn Gs W W2) (h1 : ∀ x ∈ G2, x ∈ Gs ∨ W.heap.size ≤ x) (h2 : ∀ x ∈ G2, x < W2.heap.size) (hD : D + 1 < W.heap.size) :
    PI w0 W2 s d bp bs bx bY D A m c l (al ++ l2) (G ++ G2) G2 := by
  have hlt := And.intro h.b1.lt (And.intro h.b2.lt (And.intro h.b3.lt h.b4.lt))
  have hw := h.old.size
  have hne : ∀ x ∈ Gs, w0.heap.size ≤ x := fun x hx => (h.gs x hx).2.1
  refine ⟨hS, fun x hx => ⟨by simp [hx], ?_⟩, ⟨by simp [h.own.1], by simp [h.own.2.1], by simp [h.own.2.2.1], by simp [h.own.2.2.2.1], by simp [h.own.2.2.2.2.1], by simp [h.own.2.2.2.2.2]⟩, h.ne,
    h.b1.turn ht (fun hm => (h.gs _ hm).2.2.2.1 rfl), h.b2.turn ht (fun hm => (h.gs _ hm).2.2.2.2.1 rfl), h.b3.turn ht (fun hm => (h.gs _ hm).2.2.2.2.2.1 rfl), h.b4.turn ht (fun hm => (h.gs _ hm).2.2.2.2.2.2.1 rfl), below_turn h.old ht hne h.old.size, h.D0, fun x hx => ?_⟩
  rotate_left
  · rcases List.mem_append.1 hx with h' | h'
    · exact (h.gb x h').imp (fun h => Nat.lt_of_lt_of_le h ht.size) id
    · exact .inl (h2 x h')
  have h3 := h2 x hx
  rcases h1 x hx with h4 | h4
  · obtain ⟨a1, a2, a3, a4, a5, a6, a7, a8, a9⟩ := h.gs x h4
    exact ⟨a2, h3, a4, a5, a6, a7, a8, a9⟩
  · exact ⟨by omega, h3, by omega, by omega, by omega, by omega, by omega, by omega⟩
end
/-- A round's argument: a piece. -/
def pArg (full : List (List UInt8)) (k : Nat) (args : Array Value) (W : World) : Prop := ∃ A n c o, args = #[.slice A n c] ∧ full[k]? = some o ∧ Rd W A n c o
/-- What the iterator over the pieces asks of memory when it is called. -/
def pStart (w0 : World) (s : PS) (d bp bs bx : Nat) (A : Option Addr) (m c : Nat) (G : List Nat) (W : World) : Prop :=
  (∃ Gs, StrAt W Gs d s [] ∧ ∀ x ∈ Gs, x ∈ G ∧ w0.heap.size ≤ x ∧ x < W.heap.size ∧ x ≠ bp ∧ x ≠ bs ∧ x ≠ bx) ∧ (bp ∈ G ∧ bs ∈ G ∧ bx ∈ G) ∧
  Blk W bp 45 #[.func (.func 54) #[] #[.pointer (some ⟨bx, 0, none⟩)]] ∧ Blk W bs 31 #[.pointer (some ⟨d, 0, none⟩)] ∧ Blk W bx 30 #[.slice A m c] ∧ Old w0 W ∧ ∀ x ∈ G, x < W.heap.size
theorem pStart.pi {w0 W W2 : World} {s : PS} {d bp bs bx : Nat} {A : Option Addr} {m c l : Nat} {G : List Nat} (h : pStart w0 s d bp bs bx A m c G W) (hW2 : W.alloc (.cells #[.func (.yield l) #[] #[]] 60) = W2) :
    ∃ Gs, PI w0 W2 s d bp bs bx W.heap.size W2.heap.size A m c l [] (W.heap.size :: W2.heap.size :: (W2.heap.size + 1) :: G) Gs := by
  obtain ⟨⟨Gs, h1, h2⟩, ⟨h3, h4, h5⟩, b1, b2, b3, hO, hgb⟩ := h
  have hb : Old W W2 := by rw [← hW2]; exact (Old.refl _).alloc _
  have hsz : W2.heap.size = W.heap.size + 1 := by rw [← hW2]; simp
  have l1 := b1.lt
  have l2 := b2.lt
  have l3 := b3.lt
  have b4 : Blk W2 W.heap.size 60 #[.func (.yield l) #[] #[]] := by rw [← hW2]; exact Blk.new W _ _
  have hw := hO.size
  refine ⟨Gs, h1.below hb, fun x hx => ?_, ⟨by simp [h3], by simp [h4], by simp [h5], by simp, by simp, by simp⟩, ⟨by omega, by omega, by omega, by omega, by omega, by omega, by omega, by omega⟩, b1.below hb, b2.below hb, b3.below hb, b4, Old.trans hO hb, by omega, fun x hx => by
    simp only [List.mem_cons] at hx
    rcases hx with rfl | rfl | rfl | hx
    · exact .inl (by omega)
    · exact .inr (.inl rfl)
    · exact .inr (.inr rfl)
    · have := hgb x hx; exact .inl (by omega)⟩
  obtain ⟨a1, a2, a3, a4, a5, a6⟩ := h2 x hx
  exact ⟨by simp [a1], a2, by omega, a4, a5, a6, by omega, by omega, by omega⟩
end Go.Proofs.Ytiocmebcbhbcmaa
namespace Go.Proofs.Ytiocmebcbhbcmaa
open Go.RowKit

theorem wp_range1g (q j : Nat) {P : Program} {g : Operand} {ps : Array Tmp} {assign body : Code} {Q : Exit → Act → World → Prop} {a : Act} {w : World}
    {gf : Nat} {lb : Array Value} {Arg : Nat → Array Value → World → Prop} {Mine : Nat → World → Prop} {N : Nat} {T : List Nat}
    (hg : a.eval g = .func (.func gf) #[] lb) (eg : ∀ args w, (callFunc gf args).run P w = .ok (.enter gf args) w)
    (hit : Iter P gf lb Arg Mine N T) (hps : ∀ k args W, Arg k args W → args.size = ps.size) (hT : ∀ t ∈ T, t < w.heap.size)
    (I : Nat → World → Prop) (Ix : Code → Nat → World → Prop)
    (hI : ∀ k W1 W2 S, I k W1 → Turn S W1 W2 → (∀ t ∈ S, t ∈ T ∨ (t = w.heap.size + 1 ∧ ∃ r, W1.heap[t]? = some (.loop r))) → I k W2)
    (hIx : ∀ c k W1 W2 S, Ix c k W1 → Turn S W1 W2 → (∀ t ∈ S, t ∈ T ∨ (t = w.heap.size + 1 ∧ ∃ r, W1.heap[t]? = some (.loop r))) → Ix c k W2)
    (hM : ∀ k W1 W2, Mine k W1 → (∃ r, W1.heap[w.heap.size + 1]? = some (.loop r)) → Turn [w.heap.size + 1] W1 W2 → Mine k W2)
    (hA : ∀ k args W1 W2, Arg k args W1 → (∃ r, W1.heap[w.heap.size + 1]? = some (.loop r)) → Turn [w.heap.size + 1] W1 W2 → Arg k args W2)
    (h0 : I 0 w) (hM0 : Mine 0 w) (hM1 : ∀ W, Turn [] w W → Mine 0 W)
    (hassign : ∀ (l : Nat) (args : Array Value) (k : Nat) (W : World) (K : Act → World → Prop), Arg k args W →
      K { tmps := ((ps.zip args).foldl (fun t (p, v) => t.setIfInBounds p v) a.tmps).setIfInBounds q (args.getD j undef), defers := [] } W →
      assign.wpIn (Fence.wide.inRound l) 2 P (Exit.then K (fun _ _ _ => False)) { tmps := (ps.zip args).foldl (fun t (p, v) => t.setIfInBounds p v) a.tmps, defers := [] } W)
    (hbody : ∀ (l k : Nat) (args : Array Value) (W : World), k < N → w.heap.size + 1 < W.heap.size → I k W → Mine k W → Arg k args W →
      body.wpIn (Fence.wide.inRound l) 2 P (roundEnds w.heap.size I Ix Mine k W) { tmps := ((ps.zip args).foldl (fun t (p, v) => t.setIfInBounds p v) a.tmps).setIfInBounds q (args.getD j undef), defers := [] } W)
    (hdone : ∀ (W : World), w.heap.size + 1 < W.heap.size → I N W → W.heap[w.heap.size]? = some (.deferred (some [])) → Q .normal { a with defers := { target := .collected w.heap.size, args := #[] } :: a.defers } W)
    (hstop : ∀ (c : Code) (k : Nat) (W : World), w.heap.size + 1 < W.heap.size → k < N → Ix c k W → W.heap[w.heap.size]? = some (.deferred (some [])) → c.wp P Q { a with defers := { target := .collected w.heap.size, args := #[] } :: a.defers } W) :
    (Code.rangeFunc g ps assign body).wp P Q a w :=
  wp_range hg eg hit hps hT I Ix hI hIx hM hA h0 hM0 (fun W ht _ => hM1 W ht) (fun args => { tmps := ((ps.zip args).foldl (fun t (p, v) => t.setIfInBounds p v) a.tmps).setIfInBounds q (args.getD j undef), defers := [] })
    hassign hbody hdone hstop
end Go.Proofs.Ytiocmebcbhbcmaa
