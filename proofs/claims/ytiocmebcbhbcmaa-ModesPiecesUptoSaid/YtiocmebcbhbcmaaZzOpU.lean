/-
  Modes: the iterator over the pieces gives what the parts give, piece for piece, and the end.
  Rows of bytes and bytes that came in, with what they weigh.
-/
import Derived.Test.YtiocmebcbhbcmaaZzRange1
import Derived.Test.YtiocmebcbhbcmaaZzOpenP
import Derived.Test.YtiocmebcbhbcmaaRows
import Derived.Deep.Slices
namespace Go.Proofs.Ytiocmebcbhbcmaa
set_option maxRecDepth 100000
open Go.RowKit
attribute [local go_sem] Oper.semAt_some

theorem roundIn_round {m m' l0 : Nat} {P : Program} {l : Nat} {f : FuncId} {tmps : Array Value} {assign body : Code} {w : World} {R : Ending → World → Prop} (h : RoundIn Fence.wide m P l f tmps assign body w R) : RoundIn (Fence.wide.inRound l0) m' P l f tmps assign body w R :=
  ⟨trivial, fun c cs _ => h.2 c cs (room_wide _)⟩
theorem norm_mark {P : Program} {fn : Func} {R : Ending → World → Prop} {a : Act} {W : World} {D : Nat} {v : Value} (hd : a.defers = [{ target := .collected D, args := #[] }]) (hK : W.heap[D]? = some (.deferred (some [])))
    (hres : ∀ W', (results fn a.tmps).run P W' = .ok v W') (hR : R (.returned v) (W.putObj D (.deferred none))) : bodyPostM Fence.wide 3 P fn R .normal a W := ret_mark hd hK hres hR
theorem take_flat (ls : List (List UInt8)) (k : Nat) (l : List UInt8) (h : ls[k]? = some l) : (ls.take (k + 1)).flatten = (ls.take k).flatten ++ l := by
  rw [List.take_add_one, h, List.flatten_append]
  simp
theorem take_flat_le (ls : List (List UInt8)) (k : Nat) : (ls.take k).flatten.length ≤ ls.flatten.length := by
  conv => rhs; rw [← List.take_append_drop k ls, List.flatten_append, List.length_append]
  omega
theorem prs_step (s : PS) (al l : List UInt8) (ls : List (List UInt8)) : prs s al (l :: ls) = (if outF s al l = [] then [] else [outF s al l]) ++ prs s (al ++ l) ls := rfl
theorem drop_cons_get {α : Type} {full : List α} {i : Nat} {o : α} {r : List α} (h : full.drop i = o :: r) : full[i]? = some o ∧ full.drop (i + 1) = r ∧ i < full.length := by
  have hlt : i < full.length := by
    rcases Nat.lt_or_ge i full.length with h1 | h1
    · exact h1
    · rw [List.drop_eq_nil_of_le h1] at h; cases h
  rw [List.drop_eq_getElem_cons hlt] at h
  injection h with h1 h2
  exact ⟨by rw [List.getElem?_eq_getElem hlt, h1], h2, hlt⟩
set_option maxHeartbeats 16000000 in
theorem pieces_iter (w0 : World) (bp bs bx d : Nat) (s : PS) (A : Option Addr) (m c : Nat) (ls : List (List UInt8)) (hr : RowsAt w0 A m ls) (hm : m ≤ maxLen) (hc0 : s.mode = 4 ∨ s.mode = 5 → s.c0.length = 16) (hdl : s.data.length ≤ 100000) (htot : ls.flatten.length ≤ 40000) :
    IterG Try.prog 53 #[.pointer (some ⟨bp, 0, none⟩), .pointer (some ⟨bs, 0, none⟩)] (pArg (prs s [] ls)) (prs s [] ls).length (pStart w0 s d bp bs bx A m c) w0.heap.size := by
  obtain ⟨full, hfull⟩ : ∃ f, prs s [] ls = f := ⟨_, rfl⟩
  rw [hfull]
  intro l J W G hJ hY h0 hS
  obtain ⟨w2, hw2⟩ : ∃ w2, W.alloc (.cells #[.func (.yield l) #[] #[]] 60) = w2 := ⟨_, rfl⟩
  obtain ⟨Gs, hPI⟩ := hS.pi hw2
  have hT2 : Turn [] W w2 := by rw [← hw2]; exact (Turn.refl [] W).alloc _
  have hsz2 : w2.heap.size = W.heap.size + 1 := by rw [← hw2]; simp
  have hJ1 : J 0 (W.heap.size :: w2.heap.size :: (w2.heap.size + 1) :: G) w2 := hJ 0 G _ W w2 h0 (Turn.of_nil hT2) (fun x hx => by
    simp only [List.mem_cons] at hx
    rcases hx with rfl | rfl | rfl | hx
    · exact .inr (by omega)
    · exact .inr (by omega)
    · exact .inr (by omega)
    · exact .inl hx)
  have hpl := hr.1
  obtain ⟨Y, hYe⟩ : ∃ Y, W.heap.size = Y := ⟨_, rfl⟩
  obtain ⟨D, hD⟩ : ∃ D, w2.heap.size = D := ⟨_, rfl⟩
  rw [hYe] at hPI hJ1
  rw [hD] at hPI hJ1
  have c1 := hPI.b1.cell 0
  simp only [List.getElem?_toArray, List.getElem?_cons_zero] at c1
  have hne := seqFN
  have HH := Lib.hid (And.intro hPI (And.intro hJ1 (And.intro hfull (And.intro hr hpl))))
  have HJ := Lib.hid (And.intro hJ hY)
  have HD := Lib.hid (And.intro hYe (And.intro hD hw2))
  clear hPI hJ1 hfull hr hpl hJ hY h0 hS hT2 hsz2
  refine callsIn_of_wp_marks (F := Fence.wide) (n := 3) Try.func53 rfl trivial ?_
  simp only [Try.ntmps53, List.size_toArray, List.length_cons, List.length_nil, Nat.reduceAdd, Nat.reduceSub, Array.replicate_succ, Array.replicate_zero, List.push_toArray, List.append_toArray, List.nil_append, List.cons_append]
  gi_wp2
  refine wpIn_wide.2 ?_
  refine wp_range1g 4 0 (gf := 54) (lb := #[.pointer (some ⟨bx, 0, none⟩)]) (T := []) rfl (fun _ _ => by kernel_rfl)
    (given_iter w0 bx A m c ls HH.out.2.2.2.1 hm) (fun k args W h => by obtain ⟨_, _, _, _, _, rfl, _⟩ := h; rfl) (by simp)
    (fun k W => ∃ (i : Nat) (G1 Gs1 : List Nat), i ≤ full.length ∧ full.drop i = prs s (ls.take k).flatten (ls.drop k) ∧ J i G1 W ∧ PI w0 W s d bp bs bx Y D A m c l (ls.take k).flatten G1 Gs1)
    (fun _ _ _ => False)
    ?hI ?hIx ?hM ?hA ⟨0, _, Gs, by omega, HH.out.2.2.1.symm, HH.out.2.1, HH.out.1⟩ ?hM0 ?hM1 ?hassign ?hbody ?hdone ?hstop
  case hI =>
    rintro k W1 W2 S ⟨i, G1, Gs1, h1, h2, h3, h4⟩ ht hS
    have hS' : ∀ t ∈ S, t = D ∨ t = D + 1 := by
      intro t h
      rcases hS t h with h | ⟨h, _⟩
      · cases h
      · rw [hD] at h; exact .inr h
    refine ⟨i, G1, Gs1, h1, h2, HJ.out.1 i G1 G1 W1 W2 h3 (ht.more (fun x hx => ?_)) (fun x hx => .inl hx), h4.book ht hS'⟩
    rcases hS' x hx with rfl | rfl
    · exact h4.own.2.2.2.2.1
    · exact h4.own.2.2.2.2.2
  case hIx => rintro c k W1 W2 S h; exact h.elim
  case hM =>
    rintro k W1 W2 ⟨h1, h2⟩ ⟨r, hr⟩ ht
    have hne' := HH.out.1.ne
    have h00 := HH.out.1.D0
    rw [hD] at ht
    exact ⟨h1.turn ht (by simp; exact hne'.2.2.2.2.2.2.1), below_turn h2 ht (fun t hm => by simp at hm; omega) h2.size⟩
  case hA =>
    rintro k args W1 W2 ⟨h1, h2⟩ ⟨r, hr⟩ ht
    have h00 := HH.out.1.D0
    rw [hD] at ht
    exact ⟨below_turn h1 ht (fun t hm => by simp at hm; omega) h1.size, h2⟩
  case hM0 => exact ⟨HH.out.1.b3, HH.out.1.old⟩
  case hM1 =>
    intro W' ht
    exact ⟨HH.out.1.b3.turn ht (by simp), below_turn HH.out.1.old ht (by simp) HH.out.1.old.size⟩
  case hassign =>
    rintro l' args k W K ⟨_, Aj, mj, cj, lk, rfl, _⟩ hK
    simp at hK
    gi_wp2
    exact hK
  case hbody =>
    rintro l' k args W' hkN hlt ⟨i, G1, Gs1, hi, hdr, hJi, hP⟩ hMi ⟨hO, Aj, mj, cj, lk, rfl, hlk, hej⟩
    rw [hD] at hlt ⊢
    have k2 := hP.b2.cell 0
    simp only [List.getElem?_toArray, List.getElem?_cons_zero] at k2
    have hal := take_flat ls k lk hlk
    have hal4 : (ls.take k).flatten.length + mj ≤ 100000 := by
      have h1 := take_flat_le ls (k + 1)
      rw [hal, List.length_append] at h1
      have h2 := hej.len
      omega
    have hdk : ls.drop k = lk :: ls.drop (k + 1) := by
      obtain ⟨hlt', e⟩ := List.getElem?_eq_some_iff.1 hlk
      rw [List.drop_eq_getElem_cons hlt', e]
    rw [hdk, prs_step] at hdr
    obtain ⟨al, hale⟩ : ∃ al, (ls.take k).flatten = al := ⟨_, rfl⟩
    rw [hale] at hal hal4 hdr hP
    have hA' : ∀ ad, Aj = some ad → 0 < mj → ad.block ∉ Gs1 := fun ad e h0 hm => by
      rcases hej with hej | ⟨h1, _⟩
      · have := hej.lt ad e; have := (hP.gs _ hm).2.1; omega
      · omega
    have hU := update_E Gs1 d s al Aj mj cj lk W' hP.str hc0 (hej.below hO) hA' (fun x hx => (hP.gs x hx).2.2.1) hal4
    by_cases ho : outF s al lk = []
    · rw [if_pos ho, List.nil_append] at hdr
      have HB := Lib.hid (And.intro hU (And.intro hP (And.intro hJi (And.intro hdr (And.intro hi (And.intro hal (And.intro hMi (And.intro ho hlt))))))))
      clear hU hP hJi hdr hi hal hMi ho hA' hej hO hlk hdk hale hal4 hkN hlt
      gi_wp2_with (refine ⟨trivial, ?_⟩; gi_at_call 17; refine (callsIn_wide.2 HB.out.1).mono ?_; rintro e w4 ⟨Ao, no, co, G', rfl, hO4, hS4, hT4, hG1, hG2, hng, hno⟩; have hno0 : no = 0 := (by have h1 := hO4.len; rw [show (s.front (al ++ lk)).drop (s.front al).length = [] from HB.out.2.2.2.2.2.2.2.1] at h1; exact h1); subst hno0; have H4 := Lib.hid (And.intro hS4 (And.intro hT4 (And.intro hG1 hG2))); clear hO4 hS4 hT4 hG1 hG2 hng hno)
      refine ⟨(fun f h => by cases h), ?_⟩
      gi_wp2
      have hP4 := HB.out.2.1.upd H4.out.1 H4.out.2.1 H4.out.2.2.1 H4.out.2.2.2 HB.out.2.2.2.2.2.2.2.2
      have hJ4 := HJ.out.1 i G1 (G1 ++ G') W' w4 HB.out.2.2.1 (H4.out.2.1.more (fun x hx => (HB.out.2.1.gs x hx).1)) (fun x hx => by
        rcases List.mem_append.1 hx with h | h
        · exact .inl h
        · rcases H4.out.2.2.1 x h with h | h
          · exact .inl (HB.out.2.1.gs x h).1
          · exact .inr h)
      refine ⟨⟨Gs1, H4.out.2.1, fun hm => (HB.out.2.1.gs _ hm).2.2.2.2.2.2.2.1 rfl, fun hm => (HB.out.2.1.gs _ hm).2.2.2.2.2.2.2.2 rfl⟩, ⟨i, G1 ++ G', G', HB.out.2.2.2.2.1, ?_, hJ4, ?_⟩, hP4.b3, hP4.old⟩
      · rw [HB.out.2.2.2.2.2.1]; exact HB.out.2.2.2.1
      · rw [HB.out.2.2.2.2.2.1]; exact hP4
    · rw [if_neg ho, List.singleton_append] at hdr
      obtain ⟨g1, g2, g3⟩ := drop_cons_get hdr
      have HB := Lib.hid (And.intro hU (And.intro hP (And.intro hJi (And.intro g1 (And.intro g2 (And.intro hal (And.intro g3 (And.intro ho hlt))))))))
      clear hU hP hJi hdr hi hal hMi ho hA' hej hO hlk hdk hale hal4 hkN hlt g1 g2 g3
      gi_wp2_with (refine ⟨trivial, ?_⟩; gi_at_call 17; refine (callsIn_wide.2 HB.out.1).mono ?_; rintro e w4 ⟨Ao, no, co, G', rfl, hO4, hS4, hT4, hG1, hG2, hng, hno⟩; have hP4 := HB.out.2.1.upd hS4 hT4 hG1 hG2 HB.out.2.2.2.2.2.2.2.2; have hJ4 := HJ.out.1 i G1 (G1 ++ G') W' w4 HB.out.2.2.1 (hT4.more (fun x hx => (HB.out.2.1.gs x hx).1)) (fun x hx => (List.mem_append.1 hx).elim .inl (fun h => (hG1 x h).elim (fun h => .inl (HB.out.2.1.gs x h).1) .inr)); have hne0 : 0 < no := (by have h1 := hO4.len; have h2 := HB.out.2.2.2.2.2.2.2.1; rcases Nat.eq_zero_or_pos no with h0 | h0; exact absurd (List.eq_nil_of_length_eq_zero (h1.symm.trans h0)) h2; exact h0); have hni : (no : Int) > 0 := (by omega); have hnd : decide ((no : Int) > 0) = true := decide_eq_true hni; obtain ⟨fn, tmps, assign, body, hy, hR⟩ := HJ.out.2 i #[.slice Ao no co] (G1 ++ G') w4 HB.out.2.2.2.2.2.2.1 hJ4 ⟨Ao, no, co, _, rfl, HB.out.2.2.2.1, hO4.rd⟩ (fun x hx => (by have h1 := HB.out.2.2.2.2.2.2.2.2; have h2 := hT4.size; rcases hP4.gb x hx with h | rfl | rfl; exact h; omega; omega)); have k4 := hP4.b4.cell 0; simp only [List.getElem?_toArray, List.getElem?_cons_zero] at k4; have H4 := Lib.hid (And.intro hP4 (And.intro hT4 hR)); clear hO4 hS4 hT4 hG1 hG2 hng hno hP4 hJ4 hR hne0)
      refine (roundIn_round H4.out.2.2).mono ?_
      rintro e W5 ⟨rfl, hJ5, S, hTS, hS5⟩
      have hP5 := H4.out.1.round hTS hS5
      have H5 := Lib.hid (And.intro hJ5 (And.intro hTS (And.intro hS5 hP5)))
      clear hJ5 hTS hS5 hP5
      gi_wp2
      have hP4 := H4.out.1
      refine ⟨⟨Gs1 ++ S, (H4.out.2.1.more (fun x hx => by simp [hx])).trans (H5.out.2.1.more (S' := Gs1 ++ S) (fun x hx => by simp [hx])) (fun x hx => .inl hx), fun hm => ?_, fun hm => ?_⟩, ⟨i + 1, G1 ++ G', G', HB.out.2.2.2.2.2.2.1, ?_, H5.out.1, ?_⟩, H5.out.2.2.2.b3, H5.out.2.2.2.old⟩
      · rcases List.mem_append.1 hm with h | h
        · exact (HB.out.2.1.gs _ h).2.2.2.2.2.2.2.1 rfl
        · exact (H5.out.2.2.1 _ h).1 hP4.own.2.2.2.2.1
      · rcases List.mem_append.1 hm with h | h
        · exact (HB.out.2.1.gs _ h).2.2.2.2.2.2.2.2 rfl
        · exact (H5.out.2.2.1 _ h).1 hP4.own.2.2.2.2.2
      · rw [HB.out.2.2.2.2.2.1]; exact HB.out.2.2.2.2.1
      · rw [HB.out.2.2.2.2.2.1]; exact H5.out.2.2.2
  case hdone =>
    rintro W' hlt ⟨i, G1, Gs1, hi, hdr, hJi, hP⟩ hK
    rw [hD] at hlt hK ⊢
    have hml : ls.length = m := HH.out.2.2.2.2
    rw [show ls.drop m = [] from List.drop_eq_nil_of_le (by omega), show ls.take m = ls from List.take_of_length_le (by omega)] at hdr
    rw [show ls.take m = ls from List.take_of_length_le (by omega)] at hP
    obtain ⟨al, hale⟩ : ∃ al, ls.flatten = al := ⟨_, rfl⟩
    rw [hale] at hdr hP htot
    have k2 := hP.b2.cell 0
    simp only [List.getElem?_toArray, List.getElem?_cons_zero] at k2
    have hF := final_any Gs1 d s al W' hP.str hc0 hdl (by omega)
    obtain ⟨FV, hFV⟩ : ∃ F, s.fin al = F := ⟨_, rfl⟩
    have hdr2 : full.drop i = if (s.fin al).2 = 0 ∧ (s.fin al).1 ≠ [] then [(s.fin al).1] else [] := hdr
    rw [hFV] at hF hdr2
    obtain ⟨fo, fv⟩ := FV
    simp only at hdr2
    by_cases hy : fv = 0 ∧ fo ≠ []
    · obtain ⟨rfl, hfo⟩ := hy
      rw [if_pos ⟨rfl, hfo⟩] at hdr2
      obtain ⟨g1, g2, g3⟩ := drop_cons_get hdr2
      have hend : i + 1 = full.length := by
        have h1 := congrArg List.length g2
        rw [List.length_drop, List.length_nil] at h1
        omega
      have HB := Lib.hid (And.intro hF (And.intro hP (And.intro hJi (And.intro g1 (And.intro g3 (And.intro hend (And.intro hK (And.intro hfo hlt))))))))
      clear hF hP hJi hdr hi hfo hlt g1 g2 g3 hdr2 hend hK hFV hale hml
      gi_wp2_with (refine ⟨trivial, ?_⟩; gi_at_call 21; refine (callsIn_wide.2 HB.out.1).mono ?_; rintro e w4 ⟨Ao, no, co, rfl, hO4, hOv, hT4, hno⟩; have hJ4 := HJ.out.1 i G1 G1 W' w4 HB.out.2.2.1 (hT4.more (fun x hx => (HB.out.2.1.gs x hx).1)) (fun x hx => .inl hx); have hne0 : 0 < no := (by have h1 := hO4.1; have h2 := HB.out.2.2.2.2.2.2.2.1; rcases Nat.eq_zero_or_pos no with h0 | h0; exact absurd (List.eq_nil_of_length_eq_zero (h1.symm.trans h0)) h2; exact h0); have hni : (no : Int) > 0 := (by omega); have hnd : decide ((no : Int) > 0) = true := decide_eq_true hni; obtain ⟨fn, tmps, assign, body, hy, hR⟩ := HJ.out.2 i #[.slice Ao no co] G1 w4 HB.out.2.2.2.2.1 hJ4 ⟨Ao, no, co, _, rfl, HB.out.2.2.2.1, hO4⟩ (fun x hx => (by have h1 := HB.out.2.2.2.2.2.2.2.2; have h2 := hT4.size; rcases HB.out.2.1.gb x hx with h | rfl | rfl; omega; omega; omega)); have k4 := (HB.out.2.1.b4.turn hT4 (fun hm => (HB.out.2.1.gs _ hm).2.2.2.2.2.2.1 rfl)).cell 0; simp only [List.getElem?_toArray, List.getElem?_cons_zero] at k4; have H4 := Lib.hid (And.intro hT4 hR); clear hO4 hOv hT4 hno hJ4 hR hne0)
      refine H4.out.2.mono ?_
      rintro e W5 ⟨rfl, hJ5, S, hTS, hS5⟩
      have H5 := Lib.hid (And.intro hJ5 (And.intro hTS hS5))
      clear hJ5 hTS hS5
      gi_wp2
      have hDG : D ∈ G1 := HB.out.2.1.own.2.2.2.2.1
      refine norm_mark (D := D) rfl ?_ (fun W' => results_none rfl _ _ _) ⟨⟨_, rfl⟩, G1, ?_⟩
      · have hlt := HB.out.2.2.2.2.2.2.2.2
        have h1 := H4.out.1.block D (by omega) (fun hm => (HB.out.2.1.gs _ hm).2.2.2.2.2.2.2.1 rfl)
        have h2 := H5.out.2.1.block D (by have := H4.out.1.size; omega) (fun hm => (H5.out.2.2 _ hm).1 hDG)
        exact h2.trans (h1.trans HB.out.2.2.2.2.2.2.1)
      · rw [← HB.out.2.2.2.2.2.1]
        exact HJ.out.1 (i + 1) G1 G1 W5 _ H5.out.1 (((Turn.refl [D] W5).putObj (.inl (by simp)) _).more (fun x hx => by simp at hx; rw [hx]; exact hDG)) (fun x hx => .inl hx)
    · rw [if_neg hy] at hdr2
      have hend : i = full.length := by
        have h1 := congrArg List.length hdr2
        rw [List.length_drop, List.length_nil] at h1
        omega
      have HB := Lib.hid (And.intro hF (And.intro hP (And.intro hJi (And.intro hend (And.intro hK hlt)))))
      have hfin : ∀ w4, Turn Gs1 W' w4 → w4.heap[D]? = some (.deferred (some [])) ∧ ∃ G', J full.length G' (w4.putObj D (.deferred none)) := fun w4 hT4 => by
        have hDG : D ∈ G1 := HB.out.2.1.own.2.2.2.2.1
        have hlt := HB.out.2.2.2.2.2
        refine ⟨(hT4.block D (by omega) (fun hm => (HB.out.2.1.gs _ hm).2.2.2.2.2.2.2.1 rfl)).trans HB.out.2.2.2.2.1, G1, ?_⟩
        rw [← HB.out.2.2.2.1]
        have hJ4 := HJ.out.1 i G1 G1 W' w4 HB.out.2.2.1 (hT4.more (fun x hx => (HB.out.2.1.gs x hx).1)) (fun x hx => .inl hx)
        exact HJ.out.1 i G1 G1 w4 _ hJ4 (((Turn.refl [D] w4).putObj (.inl (by simp)) _).more (fun x hx => by simp at hx; rw [hx]; exact hDG)) (fun x hx => .inl hx)
      have HFi := Lib.hid hfin
      clear hF hP hJi hdr hi hlt hdr2 hend hK hFV hale hml hfin
      by_cases hv : fv = 0
      · subst hv
        have hfo : fo = [] := by
          rcases Decidable.em (fo = []) with h | h
          · exact h
          · exact absurd ⟨rfl, h⟩ hy
        subst hfo
        clear hy
        gi_wp2_with (refine ⟨trivial, ?_⟩; gi_at_call 21; refine (callsIn_wide.2 HB.out.1).mono ?_; rintro e w4 ⟨Ao, no, co, rfl, hO4, hOv, hT4, hno⟩; have hno0 : no = 0 := hO4.1; subst hno0; have H4 := Lib.hid hT4; clear hO4 hOv hT4 hno)
        obtain ⟨h1, h2⟩ := HFi.out w4 H4.out
        exact norm_mark (D := D) rfl h1 (fun W' => results_none rfl _ _ _) ⟨⟨_, rfl⟩, h2⟩
      · have hvb : (fv == 0) = false := by simpa using hv
        clear hy
        gi_wp2_with (refine ⟨trivial, ?_⟩; gi_at_call 21; refine (callsIn_wide.2 HB.out.1).mono ?_; rintro e w4 ⟨Ao, no, co, rfl, hO4, hOv, hT4, hno⟩; have H4 := Lib.hid hT4; clear hO4 hOv hT4 hno)
        obtain ⟨h1, h2⟩ := HFi.out w4 H4.out
        exact norm_mark (D := D) rfl h1 (fun W' => results_none rfl _ _ _) ⟨⟨_, rfl⟩, h2⟩
  case hstop => intro c k W _ _ h; exact h.elim
end Go.Proofs.Ytiocmebcbhbcmaa
namespace Go.Proofs.Ytiocmebcbhbcmaa
set_option maxRecDepth 100000
open Go.RowKit Go.ChangeShapes Go.WideShapes Go.ChangeAt

theorem one_leU {H : Type} (d : DataW H) : 1 ≤ Rows.uptoBulk d := by
  cases d with
  | lit l => cases l <;> simp [Rows.uptoBulk]
  | nil => simp [Rows.uptoBulk]
  | ptr d => simp [Rows.uptoBulk]
  | slice elems spare => simp [Rows.uptoBulk]
  | agg parts => simp [Rows.uptoBulk]
  | iface t d => simp [Rows.uptoBulk]
  | map entries => simp [Rows.uptoBulk]
  | held h => simp [Rows.uptoBulk]
theorem bulk_len {H : Type} (l : List (DataW H)) : l.length ≤ Rows.uptoBulkAll l := by
  induction l with
  | nil => simp [Rows.uptoBulkAll]
  | cons x r ih => have := one_leU x; simp only [Rows.uptoBulkAll, List.length_cons]; omega
theorem bulk_mem {H : Type} {d : DataW H} {l : List (DataW H)} (h : d ∈ l) : Rows.uptoBulk d ≤ Rows.uptoBulkAll l := by
  induction l with
  | nil => cases h
  | cons x r ih =>
    simp only [Rows.uptoBulkAll]
    rcases List.mem_cons.1 h with e | e
    · subst e; omega
    · have := ih e; omega
theorem bulk_app {H : Type} (l r : List (DataW H)) : Rows.uptoBulkAll (l ++ r) = Rows.uptoBulkAll l + Rows.uptoBulkAll r := by
  induction l with
  | nil => simp [Rows.uptoBulkAll]
  | cons x l ih => simp only [List.cons_append, Rows.uptoBulkAll, ih]; omega
theorem flat_bulk {H : Type} (f : Nat → List UInt8) (g : Nat → DataW H) : ∀ (rs : List Nat), (∀ r ∈ rs, (f r).length ≤ Rows.uptoBulk (g r)) → ((rs.map f).flatten.length ≤ Rows.uptoBulkAll (rs.map g))
  | [], _ => by simp [Rows.uptoBulkAll]
  | r :: rs, h => by
    have ih := flat_bulk f g rs (fun x hx => h x (List.mem_cons_of_mem _ hx))
    have h1 := h r (by simp)
    simp only [List.map_cons, List.flatten_cons, List.length_append, Rows.uptoBulkAll]
    omega
section
variable {H : Type} {enc : TypeId × Value → H}
theorem open_rowsU {W : World} {base : Nat} {v : Value} {d : DataW H} {p : List MemPlace} (hval : Value.okWide Try.prog W .any base 30 v) (h : DataW.Trod enc Try.prog W 0 (fun _ => true) true 30 v d p) :
    ∃ A m c ls, v = .slice A m c ∧ m ≤ c ∧ c ≤ maxLen ∧ RowsAt W A m ls ∧ ls.flatten.length + 1 ≤ Rows.uptoBulk d := by
  have hval' := hval
  obtain ⟨a1, len, cap, rfl⟩ := okWide_slice Try.underlying30 hval
  obtain ⟨fuel, hf⟩ := h
  rcases Deep.open_int_rows Try.underlying30 Try.underlying22 Try.underlying5 (show Try.prog.cellsOf 22 = 1 by kernel_rfl) (show Try.prog.cellsOf 5 = 1 by kernel_rfl) hf with ⟨hcs, hx⟩ | ⟨a, len', cap', A, L, C, Z, hcs, _, hl, hm, hx, hr⟩
  · simp [Value.cells] at hcs
    obtain ⟨rfl, rfl, rfl⟩ := hcs
    exact ⟨_, _, _, [], rfl, Nat.zero_le _, Nat.zero_le _, ⟨rfl, .inl rfl⟩, one_leU d⟩
  · simp [Value.cells] at hcs
    obtain ⟨rfl, rfl, rfl⟩ := hcs
    unfold Value.okWide Cell.okWide Cell.ok at hval'
    rw [Try.underlying30] at hval'
    obtain ⟨_, _, _, hspot, row, cells, hsh, _⟩ := hval'
    have hlt : a.block < W.heap.size := by
      unfold World.shape? at hsh
      rcases Nat.lt_or_ge a.block W.heap.size with h | h
      · exact h
      · rw [Array.getElem?_eq_none h] at hsh; cases hsh
    obtain ⟨ab, ao, spot⟩ := a
    simp only at hspot hlt
    subst hspot
    refine ⟨_, len, cap, (List.range len).map fun r => ((Z r).take (L r)).map fun n => UInt8.ofNat n.toNat, rfl, hl, hm, ⟨by simp, .inr ⟨ab, ao, rfl, hlt, fun j l hj => ?_⟩⟩, ?_⟩
    rotate_left
    · have hd : d = _ := congrArg Prod.fst hx
      rw [hd]
      simp only [Rows.uptoBulk]
      have h9 := flat_bulk (H := H) (fun r => ((Z r).take (L r)).map fun n => UInt8.ofNat n.toNat) (fun r => Deep.intRow .u8 (A r) (L r) (Z r)) (List.range len) (fun r hr' => by
        have hrc : r < cap := by rw [List.mem_range] at hr'; omega
        obtain ⟨_, h1, _, _, _, h5, _⟩ := hr r hrc
        cases hA : A r with
        | none =>
          have h0 := h5 hA
          rw [show L r = 0 by omega]
          simp
        | some a' =>
          simp only [Deep.intRow, Rows.uptoBulk, lits]
          have h2 := bulk_len (H := H) (((Z r).take (L r)).map fun n => DataW.lit (.int .u8 n))
          rw [List.length_map] at h2 ⊢
          omega)
      omega
    have hj' : j < len := by
      have := (List.getElem?_eq_some_iff.1 hj).1
      simpa using this
    rw [List.getElem?_map, List.getElem?_range hj'] at hj
    simp only [Option.map_some, Option.some.injEq] at hj
    subst hj
    obtain ⟨hc, h1, h2, h3, h4, h5, h6⟩ := hr j (by omega)
    rw [Addr.add_lit] at hc
    refine ⟨_, _, _, hc, ?_⟩
    rcases Nat.eq_zero_or_pos (C j) with hz | hz
    · exact .inr ⟨by omega, hz, by rw [show L j = 0 by omega]; rfl⟩
    · refine .inl ?_
      obtain ⟨a', ha'⟩ : ∃ a', A j = some a' := by
        cases hA : A j with
        | none => have := h5 hA; omega
        | some a' => exact ⟨a', rfl⟩
      obtain ⟨_, h7⟩ := h6 a' ha'
      have h80 := h7 0 hz
      rw [show a'.add 0 = a' from rfl] at h80
      obtain ⟨ab2, ao2, sp2⟩ := a'
      have hsp : sp2 = none ∧ ab2 < W.heap.size := by
        unfold World.cell? at h80
        simp only at h80
        split at h80
        · rename_i cs t fr hh
          refine ⟨?_, (Array.getElem?_eq_some_iff.1 hh).1⟩
          cases sp2 with
          | none => rfl
          | some s => simp at h80
        · cases h80
      obtain ⟨rfl, hlt2⟩ := hsp
      rw [ha']
      refine ⟨by simp; omega, h1, h2, .inr ⟨ab2, ao2, rfl, hlt2, fun k x hk => ?_⟩⟩
      have hk' : k < L j := by
        have := (List.getElem?_eq_some_iff.1 hk).1
        simp at this; omega
      have hc := h7 k (by omega)
      rw [Addr.add_lit] at hc
      rw [hc]
      have e : (Z j)[k]? = some ((Z j).getD k 0) := by simp [List.getD, List.getElem?_eq_getElem (show k < (Z j).length by omega)]
      rw [List.getElem?_map, List.getElem?_take, if_pos hk', e] at hk
      simp only [Option.map_some, Option.some.injEq] at hk
      have hw := h4 ((Z j).getD k 0) (List.mem_of_getElem? e)
      have hrr : 0 ≤ (Z j).getD k 0 ∧ (Z j).getD k 0 ≤ 255 := by
        simpa [Lit.wf, IntKind.min, IntKind.max, IntKind.bits, IntKind.signed] using hw
      subst hk
      unfold B
      rw [UInt8.toNat_ofNat']
      congr 2
      omega
theorem open_rdU {W : World} {base : Nat} {v : Value} {d : DataW H} {p : List MemPlace} (hval : Value.okWide Try.prog W .any base 22 v) (h : DataW.Trod enc Try.prog W 0 (fun _ => true) true 22 v d p) : ∃ A m c l, v = .slice A m c ∧ Rd W A m c l ∧ m + 1 ≤ Rows.uptoBulk d := by
  obtain ⟨A, m, c, l, rfl, hr⟩ := open_rd hval h
  refine ⟨A, m, c, l, rfl, hr, ?_⟩
  obtain ⟨fuel, hf⟩ := h
  rcases Deep.open_slice Try.underlying22 hf with ⟨hcs, _⟩ | ⟨a, len, cap, m', n, D, Pl, hcs, _, hl, hm, hmm, hx, _⟩
  · simp [Value.cells] at hcs
    obtain ⟨rfl, rfl, rfl⟩ := hcs
    have := one_leU d
    omega
  · simp [Value.cells] at hcs
    obtain ⟨rfl, rfl, rfl⟩ := hcs
    have hd : d = _ := congrArg Prod.fst hx
    rw [hd]
    simp only [Rows.uptoBulk]
    have h1 := bulk_len ((List.range m).map D)
    rw [List.length_map, List.length_range] at h1
    omega
end
/-- parts[:k] -/
theorem addr_addR (A : Option Addr) : A.map (·.add 0) = A := by cases A <;> rfl
theorem szR : (Try.prog.info? 22).map (·.size) = some 1 := by kernel_rfl
theorem slice_toR (A : Option Addr) (m c k : Nat) (hk : k ≤ c) (w : World) : (Instr.slice 30 (.slice A m c) none (some (.int .i64 (k : Int))) none).run Try.prog w = .ok (.slice A k c) w := by
  obtain ⟨i, hi, hz⟩ : ∃ i, Try.prog.info? 22 = some i ∧ i.size = 1 := by
    cases h : Try.prog.info? 22 with
    | none => have := szR; rw [h] at this; cases this
    | some i => exact ⟨i, rfl, by have := szR; rw [h] at this; simpa using this⟩
  unfold Instr.slice
  simp [Sem.run_bind, run_underlying Try.underlying30 w, Instr.sliceBounds, Instr.sliceBound, asIntOf, sizeOf, typeInfo, hi, hz]
  rw [if_pos hk, addr_addR A]
  simp
theorem RowsAt.front {w : World} {A : Option Addr} {m k : Nat} {ls : List (List UInt8)} (h : RowsAt w A m ls) (hk : k ≤ m) : RowsAt w A k (ls.take k) := by
  obtain ⟨h1, h2⟩ := h
  refine ⟨by rw [List.length_take]; omega, ?_⟩
  rcases Nat.eq_zero_or_pos k with h0 | h0
  · exact .inl h0
  · rcases h2 with h2 | ⟨b, off, h2, h3, h4⟩
    · omega
    · refine .inr ⟨b, off, h2, h3, fun j l hj => h4 j l ?_⟩
      rw [List.getElem?_take] at hj
      split at hj
      · exact hj
      · cases hj
end Go.Proofs.Ytiocmebcbhbcmaa
