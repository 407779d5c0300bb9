/-
  Logs of whole chains are right; the law's begun.
-/
import Derived.Test.YtpccmcpeijmekaaDoorAud10
import Derived.Test.YtpccmcpeijmekaaDoorRange3
import Derived.Test.YtpccmcpeijmekaaDoorLaid3
namespace Go.Proofs.YtpccmcpeijmekaaDoor
open Go.RowKit
attribute [local go_sem] Oper.semAt_some

theorem rof3_len (l : List UInt8) (h : l.length ≤ 1000) : (rof 3 l).length = 32 := rof_len 3 (by decide) l (by omega)
theorem chain_at (es : List Ent) (hok : ∀ e ∈ es, e.ok) (hn : es.length ≤ 1000) (i : Nat) (e : Ent) (he : es[i]? = some e) :
    lnAt (chainOf (rof 3) es) i = wantAt (chainOf (rof 3) es) i ∧ rdE (lnAt (chainOf (rof 3) es) i) = { e with seq := i } ∧ ((lnAt (chainOf (rof 3) es) i).getD 4 0).toNat < 128 := by
  have hi := (List.getElem?_eq_some_iff.1 he).1
  have hek := hok e (List.mem_of_getElem? he)
  have h1 := chainOf_line (H := rof 3) rof3_len es i e he
  have h2 := chainOf_take (H := rof 3) rof3_len es i (by omega)
  have h3 : rdE (lnAt (chainOf (rof 3) es) i) = { e with seq := i } := by rw [h1]; exact rdE_line i e _ (by omega) hek
  refine ⟨?_, h3, ?_⟩
  · unfold wantAt
    rw [h2, h3, h1]
    rfl
  · rw [h1]; exact line_time i e _ hek
theorem chain_good (es : List Ent) (hok : ∀ e ∈ es, e.ok) (hn : es.length ≤ 1000) : GoodLog (chainOf (rof 3) es) es.length := by
  refine ⟨by rw [chainOf_len (H := rof 3) rof3_len, Nat.mul_comm], fun i hi => ?_⟩
  exact (chain_at es hok hn i _ (List.getElem?_eq_getElem hi)).2.2
theorem chain_rightTo (es : List Ent) (hok : ∀ e ∈ es, e.ok) (hn : es.length ≤ 1000) : RightTo (chainOf (rof 3) es) es.length es.length :=
  ⟨Nat.le_refl _, fun i hi => (chain_at es hok hn i _ (List.getElem?_eq_getElem hi)).1, fun h => absurd h (Nat.lt_irrefl _)⟩

def e0 : Ent := ⟨0, 5, 7, 160, 1⟩
theorem e0_ok : ∀ e ∈ [e0], e.ok := by
  intro e h
  simp at h
  subst h
  exact ⟨by decide, by decide, by decide, by decide⟩
theorem neSeq (f : FuncId) (lb : Array Value) (w : World) : (binOp .eql 38 (.func (.func f) #[] lb) Value.nilFunc).run Tryd.prog w = .ok (.bool false) w := by kernel_rfl
def BegRes (w : World) (e : Ending) (w' : World) : Prop := e = .returned (.bool true) ∧ Below w.heap.size w w'
set_option maxHeartbeats 2000000 in
theorem begun_any (w : World) (hK : KAt w) : Calls Tryd.prog 6 #[] w (BegRes w) := by
  have hg := chain_good [e0] e0_ok (by decide)
  have hrt := chain_rightTo [e0] e0_ok (by decide)
  have hat := chain_at [e0] e0_ok (by decide) 0 e0 rfl
  have hlen := chainOf_len (H := rof 3) rof3_len [e0]
  have hAp := append_yes none 0 0 0 [] 0 e0 w (Rd.nil w) rfl (by omega) (e0_ok e0 (by simp)) hK
  rw [show addLine (rof 3) [] e0 = chainOf (rof 3) [e0] from rfl] at hAp
  generalize chainOf (rof 3) [e0] = L1 at *
  have hAp' : Calls Tryd.prog 7 #[.slice none 0 0, .agg #[.int .i64 0, .int .i64 5, .int .i64 7, .int .i64 160, .int .i64 1]] w (AppYes w L1) := hAp
  have HH := Lib.hid (And.intro hg (And.intro hrt (And.intro hat (And.intro hlen (And.intro hAp' hK)))))
  clear hg hrt hat hlen hAp hAp' hK
  have hne := neSeq
  refine calls_of_marks Tryd.func6 rfl ?_
  simp only [Tryd.ntmps6, List.size_toArray, List.length_cons, List.length_nil, Nat.reduceAdd, Nat.reduceSub, Array.replicate_succ, Array.replicate_zero, List.push_toArray, List.append_toArray, List.nil_append, List.cons_append]
  go_wp2_with (first
    | (go_at_call 7; refine HH.out.2.2.2.2.1.mono ?_; rintro e w1 ⟨A1, n1, c1, rfl, hO1, hb1⟩; have hn1 := hO1.len; rw [HH.out.2.2.2.1] at hn1; simp only [List.length_cons, List.length_nil, Nat.reduceAdd, Nat.reduceMul] at hn1; subst hn1; have X1 := Lib.hid (And.intro hO1.rd hb1); clear hO1 hb1)
    | (go_at_call 9; refine (check_at A1 52 c1 1 1 L1 w1 X1.out.1 HH.out.1 (by omega) HH.out.2.1 (HH.out.2.2.2.2.2.below X1.out.2)).mono ?_; rintro e w2 ⟨rfl, hb2⟩; have X2 := Lib.hid (And.intro (X1.out.1.below hb2) (Old.trans X1.out.2 hb2)); clear hb2)
    | (go_at_call 14; refine (all_any A1 52 c1 _).mono ?_; rintro e w3 ⟨rfl, rfl⟩))
  obtain ⟨X, hX⟩ : ∃ X, w2.heap.size = X := ⟨_, rfl⟩
  obtain ⟨W0, hW0⟩ : ∃ W0, (w2.alloc (.cells #[.slice A1 52 c1] 24)).alloc (.cells #[.int .i64 0] 3) = W0 := ⟨_, rfl⟩
  have hbx : Blk W0 X 24 #[.slice A1 52 c1] := by rw [← hW0, ← hX]; exact (Blk.new w2 24 #[.slice A1 52 c1]).alloc _
  have hbk : Blk W0 (X + 1) 3 #[.int .i64 0] := by
    have := Blk.new (w2.alloc (.cells #[.slice A1 52 c1] 24)) 3 #[.int .i64 0]
    rw [hW0] at this; simpa [hX] using this
  have hz0 : W0.heap.size = X + 2 := by rw [← hW0, ← hX]; simp
  have h20 : Old w2 W0 := by rw [← hW0]; exact Old.alloc (Old.alloc (Old.refl _) _) _
  have hXX : w.heap.size ≤ X := by rw [← hX]; exact X2.out.2.size
  have hA1 : ∀ ad, A1 = some ad → ad.block < X := fun ad had => by rw [← hX]; exact X2.out.1.lt ad had
  rw [hW0, hX]
  have H0 := Lib.hid (And.intro hbx (And.intro hbk (And.intro hz0 (And.intro h20 (And.intro hXX hA1)))))
  clear hbx hbk hz0 h20 hXX hA1 hX hW0
  have hkl := HH.out.2.2.2.2.2.1
  have HKl := Lib.hid hkl
  clear hkl
  have hMine : ∀ (W W' : World) (S : List Nat) (j : Nat), lnMine X A1 52 c1 L1 j W → Turn S W W' → (∀ t ∈ S, X < t) → lnMine X A1 52 c1 L1 j W' := by
    rintro W W' S j ⟨h1, h2, h3⟩ ht hS
    have hx := H0.out.2.2.2.2.1
    have hk := HKl.out
    exact ⟨h1.turn ht (fun hm => by have := hS _ hm; omega), h2.turn ht (fun ad had hm => by have := hS _ hm; have := H0.out.2.2.2.2.2 ad had; omega), h3.turn ht (fun hm => by have := hS _ hm; omega)⟩
  refine wp_rangeC (fun tm _ g => tm.setIfInBounds 8 (.pointer (some ⟨g, 0, none⟩))) (fun k args g W => args = #[.int .i64 (k : Int), rdV (lnAt L1 k)] ∧ Blk W g 29 (entC 0 5 7 160 1) ∧ X + 1 < g)
    (gf := 20) (lb := #[.pointer (some ⟨X, 0, none⟩)]) (T := []) rfl (fun _ _ => by kernel_rfl)
    (all_iter X A1 52 c1 1 1 L1 HH.out.1 (by omega) HH.out.2.1) (fun k args W h => by cases h; rfl) (by simp)
    (fun j W => Blk W (X + 1) 3 #[.int .i64 (if j = 0 then 0 else 7)] ∧ Old w W ∧ lnMine X A1 52 c1 L1 0 W) (fun _ _ _ => False)
    ?hI ?hIx ?hM ?hA ⟨H0.out.2.1, Old.trans X2.out.2 H0.out.2.2.2.1, H0.out.1, X2.out.1.below H0.out.2.2.2.1, HH.out.2.2.2.2.2.below (Old.trans X2.out.2 H0.out.2.2.2.1)⟩ ?hM0 ?hM1 ?hassign ?hbody ?hdone ?hstop
  case hI =>
    rintro j W1 W2 S ⟨h1, h2, h3⟩ ht hS
    have hz := H0.out.2.2.1
    have hx := H0.out.2.2.2.2.1
    have hS' : ∀ t ∈ S, X + 1 < t := by
      intro t hm
      rcases hS t hm with h | ⟨h, _⟩
      · cases h
      · omega
    exact ⟨h1.turn ht (fun hm => by have := hS' _ hm; omega), h2.turned ht (fun t hm => by have := hS' _ hm; omega), hMine _ _ _ 0 h3 ht (fun t hm => by have := hS' _ hm; omega)⟩
  case hIx => intro _ _ _ _ _ h; exact h.elim
  case hM =>
    rintro j W1 W2 h ⟨r, hr⟩ ht
    exact hMine W1 W2 _ j h ht (fun t hm => by have := H0.out.2.2.1; simp at hm; omega)
  case hA =>
    rintro k args g W1 W2 ⟨h1, h2, h3⟩ ⟨r, hr⟩ ht
    refine ⟨h1, h2.turn ht (fun hm => ?_), h3⟩
    simp at hm
    subst hm
    unfold Blk at h2
    rw [hr] at h2
    cases h2
  case hM0 => exact ⟨H0.out.1, X2.out.1.below H0.out.2.2.2.1, HH.out.2.2.2.2.2.below (Old.trans X2.out.2 H0.out.2.2.2.1)⟩
  case hM1 =>
    intro W ht hm
    exact hMine W0 W [] 0 hm ht (by simp)
  case hassign =>
    rintro l' args k W K hk hlt hI hM rfl hK
    obtain rfl : k = 0 := by omega
    have hrd : rdV (lnAt L1 0) = .agg #[.int .i64 0, .int .i64 5, .int .i64 7, .int .i64 160, .int .i64 1] := by unfold rdV; rw [HH.out.2.2.1.2.1]; rfl
    have hK2 := hK W.heap.size (W.alloc (.cells (entC 0 5 7 160 1) 29)) ⟨[], Turn.of_below [] ((Below.refl _ _).alloc (Nat.le_refl _) _), by simp, by simp⟩ ⟨hI.1.alloc _, Old.trans hI.2.1 ((Below.refl _ _).alloc (Nat.le_refl _) _), hMine W _ [] 0 hM (Turn.of_below [] ((Below.refl _ _).alloc (Nat.le_refl _) _)) (by simp)⟩
      (hMine W _ [] 0 hM (Turn.of_below [] ((Below.refl _ _).alloc (Nat.le_refl _) _)) (by simp)) ⟨rfl, Blk.new _ _ _, by have := H0.out.2.2.1; omega⟩
    rw [hrd] at hK2 ⊢
    have HX := Lib.hid hK2
    clear hI hM hlt hrd hK hK2
    gi_wp2
    have := HX.out
    simp at this
    exact this
  case hbody =>
    rintro l' k args g W hk hlt hI hM ⟨rfl, hb, hgX⟩
    obtain rfl : k = 0 := by omega
    have c1 := hI.1.cell 0
    have f1 := hI.1.frozen 0
    have c2 := hb.cell 2
    unfold entC at c2
    simp only [List.getElem?_toArray, List.getElem?_cons_zero, List.getElem?_cons_succ, if_true] at c1 c2
    have HX := Lib.hid (And.intro hI (And.intro hM (And.intro hb hlt)))
    clear hI hM hb hlt
    generalize rdV (lnAt L1 0) = zz at *
    gi_wp2
    have hT := (Turn.refl [X + 1] W).setCell (p := ⟨X + 1, 0, none⟩) (.inl (by simp)) (.int .i64 7)
    have hz := H0.out.2.2.1
    exact ⟨⟨[X + 1], hT, by simp; omega, by simp; omega⟩, ⟨HX.out.1.1.set_ 0 _, HX.out.1.2.1.turned hT (by have := H0.out.2.2.2.2.1; simp; omega), hMine _ _ _ 0 HX.out.2.1 hT (by simp)⟩, hMine _ _ _ 0 HX.out.2.1 hT (by simp)⟩
  case hdone =>
    rintro W hlt ⟨h1, h2, h3⟩ hKd
    have q1 := h1.cell 0
    simp only [List.getElem?_toArray, List.getElem?_cons_zero, Nat.one_ne_zero, if_false] at q1
    have HX := Lib.hid (And.intro h1 (And.intro h2 (And.intro hKd (And.intro hlt h3))))
    clear h1 h2 hKd hlt h3
    go_wp2_with (first
      | (go_at_call 11; refine (head_any A1 52 c1 L1 W HX.out.2.2.2.2.2.1 (by omega)).mono ?_; rintro e w5 ⟨A5, n5, c5, rfl, hO5, hb5⟩; have hn5 := hO5.len; rw [lastHash_len] at hn5; subst hn5; have X5 := Lib.hid hb5; clear hO5 hb5)
      | (go_at_call 10; refine (seq_q A1 52 c1 1 w5 rfl (by omega)).mono ?_; rintro e w6 ⟨rfl, rfl⟩))
    have hz := H0.out.2.2.1
    have hx := H0.out.2.2.2.2.1
    refine ret_mark (v := .bool true) rfl ((X5.out.block _ (by have := HX.out.2.2.2.1; omega)).trans HX.out.2.2.1) (fun W' => by simp [results, Tryd.results6, go_sem]) ⟨rfl, ?_⟩
    exact (Old.trans HX.out.2.1 X5.out).turned ((Turn.refl [W0.heap.size] _).putObj (.inl (by simp)) _) (by simp; omega)
  case hstop => intro _ _ _ _ _ h; exact h.elim
end Go.Proofs.YtpccmcpeijmekaaDoor
