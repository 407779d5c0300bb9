/-
  Modes: the law's begun.
  Modes, plain: decrypting undoes encrypting, in every mode.
-/
import Derived.Test.YtiocmebcbhbcmaaMo22
import Derived.Test.YtiocmebcbhbcmaaZzMr1
namespace Go.Proofs.Ytiocmebcbhbcmaa
set_option maxRecDepth 100000
open Go.RowKit

theorem keyE (k : List UInt8) (h : keyOk k) (l : List UInt8) (hl : l.length = 16) : (encL (rks k) ((rks k).length / 16) l).length = 16 := by
  have := rks_len k h
  exact enc_ne _ _ l hl (by omega)
theorem wrF_len (E : List UInt8 → List UInt8) (hE : ∀ l, l.length = 16 → (E l).length = 16) (n s : Nat) (r : List UInt8) (hn : 0 < n) (hr : r.length = 8 * n + 8) : (wrF E n s r).length = r.length := by
  have hi := wrI_le n s hn
  have h8 : 8 ≤ wrI n s := by unfold wrI; omega
  have hx : (wrX E n s r).length = 16 := hE _ (by rw [List.length_append, List.length_take, List.length_take, List.length_drop]; omega)
  have hy : (wrY E n s r).length = 8 := xorL_lenLe _ _ 8 (by rw [List.length_take]; omega) (by rw [bytes64_len]; exact Nat.le_refl _)
  unfold wrF
  rw [length_splice _ _ _ (by rw [length_splice _ _ _ (by omega), List.length_drop]; omega), length_splice _ _ _ (by omega)]
theorem wrN_len (E : List UInt8 → List UInt8) (hE : ∀ l, l.length = 16 → (E l).length = 16) (n : Nat) (hn : 0 < n) (r : List UInt8) (hr : r.length = 8 * n + 8) : ∀ s, (wrN E n s r).length = r.length
  | 0 => rfl
  | s + 1 => by
    have ih := wrN_len E hE n hn r hr s
    show (wrF E n s (wrN E n s r)).length = _
    rw [wrF_len E hE n s _ hn (by omega), ih]
theorem wrapF_len (E : List UInt8 → List UInt8) (hE : ∀ l, l.length = 16 → (E l).length = 16) (b : List UInt8) (h : wrapLen b.length) : (wrapF E b).length = b.length + 8 := by
  obtain ⟨h1, h2, h3⟩ := h
  unfold wrapF
  rw [wrN_len E hE _ (by omega) _ (by simp [sgn]; omega)]
  simp [sgn]
theorem beg_ecb (s : PS) (hm : s.mode = 1) (he : s.enc = true) (hE : ∀ l, l.length = 16 → (s.E l).length = 16) (b : List UInt8) (hb : b.length = 20) : (s.front b).length = 16 ∧ s.waits b.length = 4 ∧ (s.fin b).2 = 33 := by
  have hk : s.keep = 0 := by unfold PS.keep; rw [if_neg (fun h => by omega)]
  have hn : s.nb b.length = 1 := by unfold PS.nb; rw [hk, hb]
  have m4 : ¬ s.mode = 4 := by omega
  have m5 : ¬ s.mode = 5 := by omega
  have m3 : ¬ s.mode = 3 := by omega
  refine ⟨?_, ?_, ?_⟩
  · unfold PS.front
    rw [if_neg m4, if_neg m5]
    unfold PS.blk
    rw [hn]
    simp only [blkN, List.append_nil]
    unfold blkF
    rw [if_pos hm, he]
    show (s.E _).length = 16
    exact hE _ (by rw [List.length_take]; omega)
  · unfold PS.waits
    rw [if_neg m4, if_neg m5, hn, hb]
  · unfold PS.fin
    rw [if_neg m4, if_neg m5]
    unfold endB
    rw [if_neg m3, if_neg ?_, he]
    · rfl
    · intro e
      have := congrArg List.length e
      rw [List.length_drop, hn, hb] at this
      simp at this
theorem beg_pad (s : PS) (hm : s.mode = 3) (he : s.enc = true) (hE : ∀ l, l.length = 16 → (s.E l).length = 16) (hp : s.p.length = 16) : (s.fin []).2 = 0 ∧ (s.front [] ++ (s.fin []).1).length = 16 := by
  have m4 : ¬ s.mode = 4 := by omega
  have m5 : ¬ s.mode = 5 := by omega
  have h1 : (s.blk []).2 = s.p := by unfold PS.blk; rw [PS.nb0]; rfl
  have hf : s.fin [] = ((blkF s.mode s.enc s.E s.D s.p (List.replicate 16 (UInt8.ofNat 16))).1, 0) := by
    unfold PS.fin
    rw [if_neg m4, if_neg m5]
    unfold endB
    rw [if_pos hm, if_pos he, h1]
    simp
  rw [hf, PS.front_nil, List.nil_append]
  refine ⟨rfl, ?_⟩
  unfold blkF
  rw [if_neg (by omega), if_pos he]
  exact hE _ (xorL_lenLe _ _ 16 (by simp) (by omega))
theorem allF_pad (k p : List UInt8) (hk : keyOk k) (hp : p.length = 16) : (allF 3 true k p []).2 = 0 ∧ (allF 3 true k p []).1.length = 16 := by
  have hpo : parOk 3 p := by unfold parOk; rw [if_neg (by decide), if_neg (by decide), if_neg (by decide)]; exact hp
  obtain ⟨h1, h2⟩ := beg_pad (PSof 3 true k p) rfl rfl (keyE k hk) hp
  have hr : allF 3 true k p [] = ((PSof 3 true k p).front [] ++ ((PSof 3 true k p).fin []).1, 0) := by
    unfold allF
    rw [if_neg (by decide), if_neg (fun h => h hk), show (3 : Int).toNat = 3 from rfl, if_neg (fun h => h hpo), if_pos h1]
  rw [hr]
  exact ⟨rfl, h2⟩
theorem beg_facts (k b : List UInt8) (hk : k.length = 16) (hb : b.length = 20) : keyOk k ∧ ((PSof 1 true k []).front b).length = 16 ∧ (PSof 1 true k []).waits b.length = 4 ∧ ((PSof 1 true k []).fin b).2 = 33 ∧ (wrapF (encL (rks k) ((rks k).length / 16)) k).length = 24 ∧
    (allF 3 true k k []).2 = 0 ∧ (allF 3 true k k []).1.length = 16 := by
  have hko : keyOk k := .inl hk
  have hE := keyE k hko
  obtain ⟨h1, h2, h3⟩ := beg_ecb (PSof 1 true k []) rfl rfl hE b hb
  obtain ⟨h4, h5⟩ := allF_pad k k hko hk
  exact ⟨hko, h1, h2, h3, by rw [wrapF_len _ hE _ (by rw [hk]; decide), hk], h4, h5⟩
theorem StrG.turn {w w' : World} {G S : List Nat} {d : Nat} {s : PS} {wl ctr pl ol : List UInt8} {x : GX} {W P M D O : Vw} (h : StrG w G d s wl ctr pl ol x W P M D O) (ht : Turn S w w') (hn : ∀ x ∈ G, x ∉ S) : StrG w' G d s wl ctr pl ol x W P M D O := by
  have hd : x.d ∉ S := hn _ (by rw [h.xd]; exact h.g1.1)
  refine ⟨h.xd, h.xm, h.xe, h.xk, h.xr, h.xw, ⟨⟨h.gc.cnt.ok, h.gc.cnt.blk.turn ht hd, h.gc.cnt.cip.turn ht (hn _ h.g1.2.1) (hn _ h.g1.2.2.1), h.gc.cnt.ctr.turn ht (hn _ h.g1.2.2.2), h.gc.cnt.pad.turn ht (fun ad e => hn _ (h.g2 ad (.inr (.inl e)))), h.gc.cnt.ne⟩, h.gc.wait.turn ht (fun ad e => hn _ (h.g2 ad (.inl e))),
    Rd.turn h.gc.mask ht (fun ad e => hn _ (h.g2 ad (.inr (.inr (.inl e))))), h.gc.m16, Rd.turn h.gc.data ht (fun ad e => hn _ (h.g2 ad (.inr (.inr (.inr (.inl e)))))), h.gc.out.turn ht (fun g hg => ?_), h.gc.sg, h.gc.sw, h.gc.aw, h.gc.ao⟩, h.wl, h.pl, h.ol, h.md, h.wn, h.on, h.g1, h.g2⟩
  cases hA : O.A with
  | none => rw [Vw.v, hA] at hg; simp [Value.ownBlock] at hg
  | some ad => rw [Vw.v, hA] at hg; simp [Value.ownBlock] at hg; subst hg; exact hn _ (h.g2 ad (.inr (.inr (.inr (.inr hA)))))
theorem StrAt.turn {w w' : World} {G S : List Nat} {d : Nat} {s : PS} {all : List UInt8} (h : StrAt w G d s all) (ht : Turn S w w') (hS : ∀ x ∈ S, x ∉ G) : StrAt w' G d s all := by
  have hn : ∀ x ∈ G, x ∉ S := fun x hx hm => hS x hm hx
  rcases h with ⟨hm, x, W, m, cw, L, nl, cl, h⟩ | ⟨hm, x, W, P, M, D, O, h⟩ | ⟨hm, he, x, W, P, M, D, O, h⟩ | ⟨hm, he, x, W, P, M, D, O, h⟩
  · refine .inl ⟨hm, x, W, m, cw, L, nl, cl, ⟨h.xd, h.xm, h.xe, h.xk, h.xr, ⟨⟨h.bk.bkc.blk.turn ht (hn _ (by rw [h.xd]; exact h.g1.1)), h.bk.bkc.cip.turn ht (hn _ h.g1.2.1) (hn _ h.g1.2.2), h.bk.bkc.last.turn ht (fun ad e => hn _ (h.g2 ad (.inr e))), h.bk.bkc.l16⟩, h.bk.wait.turn ht (fun ad e => hn _ (h.g2 ad (.inl e))), h.bk.ahead, h.bk.sep⟩, h.g1, h.g2⟩⟩
  · exact .inr (.inl ⟨hm, x, W, P, M, D, O, h.turn ht hn⟩)
  · exact .inr (.inr (.inl ⟨hm, he, x, W, P, M, D, O, h.turn ht hn⟩))
  · exact .inr (.inr (.inr ⟨hm, he, x, W, P, M, D, O, h.turn ht hn⟩))
theorem StrAt.below {w w' : World} {G : List Nat} {d : Nat} {s : PS} {all : List UInt8} (h : StrAt w G d s all) (hb : Old w w') : StrAt w' G d s all := h.turn (Turn.of_below [] hb) (fun x hx => by cases hx)
set_option maxHeartbeats 4000000 in
theorem mbegun_any (w : World) : Calls Try.prog 11 #[] w fun e w' => e = .returned (.bool true) ∧ Old w w' := by
  obtain ⟨Z, hZ⟩ : ∃ Z, zs 16 = Z := ⟨_, rfl⟩
  obtain ⟨Y, hY⟩ : ∃ Y, zs 20 = Y := ⟨_, rfl⟩
  have hZl : Z.length = 16 := by rw [← hZ]; exact zs_len 16
  have hYl : Y.length = 20 := by rw [← hY]; exact zs_len 20
  obtain ⟨bk, b1, b2, b3, b4, b5, b6⟩ := beg_facts Z Y hZl hYl
  rw [hYl] at b2
  have hmk := Try.prog_make 16 (by omega) w
  obtain ⟨w1, hw1⟩ : ∃ w1, w.alloc (.cells (madeCells #[.int .u8 0] 16) 5) = w1 := ⟨_, rfl⟩
  have hO1 : Own w1 w.heap.size (.slice (some ⟨w.heap.size, 0, none⟩) 16 16) Z := by rw [← hw1, ← hZ]; exact Own.made w 16 (by unfold maxLen; omega)
  have hB1 : Old w w1 := by rw [← hw1]; exact (Old.refl _).alloc _
  rw [hw1, show ((16 : Nat) : Int) = 16 from rfl] at hmk
  obtain ⟨X, hX⟩ : ∃ X, w.heap.size = X := ⟨_, rfl⟩
  rw [hX] at hmk hO1
  have hpost : ∀ e w', NewPost w1 1 true Z [] e w' → ∃ d, e = .returned (.tuple #[.pointer (some ⟨d, 0, none⟩), .int .i64 0]) ∧ NewRes w1 (PSof 1 true Z []) w' d := fun e w' h => by
    unfold NewPost at h
    rwa [if_neg (fun h => h bk), if_neg (fun h => h (by unfold parOk; rw [if_pos rfl]))] at h
  have hnew := (modesNew_any 1 true (some ⟨X, 0, none⟩) none 16 16 0 0 Z [] w1 hO1.rd (Rd.nil _) (by omega) (by omega) (by omega)).mono hpost
  rw [show ((1 : Nat) : Int) = 1 from rfl] at hnew
  have hdl : (PSof 1 true Z []).data.length ≤ 100000 := by unfold PS.data PSof; simp
  have hc0 : (PSof 1 true Z []).mode = 4 ∨ (PSof 1 true Z []).mode = 5 → (PSof 1 true Z []).c0.length = 16 := fun h => by rcases h with h | h <;> cases h
  obtain ⟨s, hs⟩ : ∃ s, PSof 1 true Z [] = s := ⟨_, rfl⟩
  rw [hs] at b1 b2 b3 hnew hdl hc0
  have HH := Lib.hid (And.intro hO1 (And.intro hB1 (And.intro hnew (And.intro hdl (And.intro hc0 (And.intro hX (And.intro hZ (And.intro hY (And.intro hZl hYl)))))))))
  have HB := Lib.hid (And.intro bk (And.intro b1 (And.intro b2 (And.intro b3 (And.intro b4 (And.intro b5 b6))))))
  clear hO1 hB1 hnew hdl hc0 hX hw1 bk b1 b2 b3 b4 b5 b6 hpost hZ hY hZl hYl hs
  go_enter Try.func11, Try.ntmps11
  go_upto_region 5 with (go_at_call 16; refine HH.out.2.2.1.mono ?_; rintro e w2 ⟨d, rfl, G, hS, hG, hO⟩; have H2 := Lib.hid (And.intro hS (And.intro hG hO)); clear hS hG hO)
  clear hmk
  have hmk := Try.prog_make 20 (by omega) w2
  obtain ⟨w3, hw3⟩ : ∃ w3, w2.alloc (.cells (madeCells #[.int .u8 0] 20) 5) = w3 := ⟨_, rfl⟩
  have hO3 : Own w3 w2.heap.size (.slice (some ⟨w2.heap.size, 0, none⟩) 20 20) Y := by rw [← hw3, ← HH.out.2.2.2.2.2.2.2.1]; exact Own.made w2 20 (by unfold maxLen; omega)
  have hB3 : Old w2 w3 := by rw [← hw3]; exact (Old.refl _).alloc _
  rw [hw3, show ((20 : Nat) : Int) = 20 from rfl] at hmk
  have H3 := Lib.hid (And.intro hO3 hB3)
  clear hO3 hB3 hw3
  go_upto_region 8 with (first | (go_at_call 17; refine (update_any G d s [] (some ⟨w2.heap.size, 0, none⟩) 20 20 Y w3 (StrAt.below H2.out.1 H3.out.2) HH.out.2.2.2.2.1 H3.out.1.rd (fun ad e hm => by cases e; have h1 := (H2.out.2.1 _ hm).2; simp only at h1; omega) (fun x hx => Nat.lt_of_lt_of_le (H2.out.2.1 x hx).2 H3.out.2.size) (by simp)).mono ?_; rintro e w4 ⟨A4, n4, c4, G4, rfl, u1, u2, u3, u4, u5, u6, u7⟩; have H4 := Lib.hid (And.intro u1 (And.intro u2 (And.intro u3 (And.intro u4 (And.intro u6 u7))))); clear u1 u2 u3 u4 u5 u6 u7) | (go_at_call 19; refine (holds_any G4 d s _ w4 H4.out.2.1).mono ?_; rintro e w5 ⟨rfl, rfl⟩) | (go_at_call 21; refine (final_any G4 d s _ w4 H4.out.2.1 HH.out.2.2.2.2.1 HH.out.2.2.2.1 (by rw [List.nil_append, HH.out.2.2.2.2.2.2.2.2.2]; omega)).mono ?_; rintro e w6 ⟨A6, n6, c6, rfl, v1, v2, v3, v4⟩; have H6 := Lib.hid (And.intro v1 v3); clear v1 v2 v3 v4))
  clear hmk
  have hX1 : X < w1.heap.size := (HH.out.1.lt (g := X) rfl).2
  have hGX : ∀ x ∈ G, X < x := fun x hx => by have := (H2.out.2.1 x hx).1; omega
  have hsz1 : w1.heap.size ≤ w2.heap.size := H2.out.2.2.size
  have hT4 : Turn G w2 w4 := (Turn.of_below G H3.out.2).trans H4.out.2.2.1 (fun x hx => .inl hx)
  have hk4 : Rd w4 (some ⟨X, 0, none⟩) 16 16 Z := (HH.out.1.rd.below H2.out.2.2).turn hT4 (fun ad e hm => by cases e; have := hGX _ hm; simp only at this; omega)
  have hG4X : ∀ x ∈ G4, X < x := fun x hx => by
    rcases H4.out.2.2.2.1 x hx with h | h
    · exact hGX x h
    · have := H3.out.2.size; omega
  have hk6 : Rd w6 (some ⟨X, 0, none⟩) 16 16 Z := hk4.turn H6.out.2 (fun ad e hm => by cases e; have := hG4X _ hm; simp only at this; omega)
  have hO6 : Old w w6 := by
    have h1 : Old w w2 := HH.out.2.1.trans H2.out.2.2
    have h2 : ∀ x ∈ G, w.heap.size ≤ x := fun x hx => Nat.le_trans HH.out.2.1.size (H2.out.2.1 x hx).1
    have h3 := h1.turnG hT4 h2
    exact h3.turnG H6.out.2 (fun x hx => by have := hG4X x hx; have := HH.out.2.2.2.2.2.1; omega)
  have hn4 : n4 = 16 := by
    have h1 := H4.out.1.len
    rw [List.nil_append, s.front_nil] at h1
    simp only [List.length_nil, List.drop_zero] at h1
    rw [h1]; exact HB.out.2.1
  have HK := Lib.hid (And.intro hk6 (And.intro hO6 hn4))
  have hYl := HH.out.2.2.2.2.2.2.2.2.2
  have hmk := Try.prog_make 16 (by omega) w6
  obtain ⟨w7, hw7⟩ : ∃ w7, w6.alloc (.cells (madeCells #[.int .u8 0] 16) 5) = w7 := ⟨_, rfl⟩
  have hO7 : Own w7 w6.heap.size (.slice (some ⟨w6.heap.size, 0, none⟩) 16 16) Z := by rw [← hw7, ← HH.out.2.2.2.2.2.2.1]; exact Own.made w6 16 (by unfold maxLen; omega)
  have hB7 : Old w6 w7 := by rw [← hw7]; exact (Old.refl _).alloc _
  rw [hw7, show ((16 : Nat) : Int) = 16 from rfl] at hmk
  have H7 := Lib.hid (And.intro hO7.rd hB7)
  have hwl : wrapLen 16 := by decide
  clear hO7 hB7 hw7 hGX hsz1 hT4 hk4 hG4X hk6 hO6 hn4 hYl
  go_upto_region 9 with (go_at_call 26; refine (wrap_any _ _ 16 16 16 16 Z Z w7 (HK.out.1.below H7.out.2) H7.out.1 HB.out.1 hwl).mono ?_; rintro e w8 ⟨A8, n8, c8, rfl, v1, v2⟩; have H8 := Lib.hid (And.intro v1 (H7.out.2.trans v2)); clear v1 v2)
  clear hmk hwl
  go_upto_region 11 with (first | (go_at_call 22; refine (cmac_any _ none 16 16 0 0 Z [] w8 (HK.out.1.below H8.out.2) (Rd.nil _) HB.out.1 (by omega)).mono ?_; rintro e w9 ⟨g9, rfl, v1, v2⟩; have H9 := Lib.hid (Old.trans H8.out.2 v2); clear v1 v2) | (go_at_call 13; refine (modesAll_any 3 true _ _ none 16 16 16 16 0 0 Z Z [] w9 (HK.out.1.below H9.out) (HK.out.1.below H9.out) (Rd.nil _) (by omega) (by omega)).mono ?_; rintro e w10 ⟨A10, n10, c10, rfl, v1, v2⟩; have H10 := Lib.hid (And.intro v1 (H9.out.trans v2)); clear v1 v2))
  have a1 : n4 = 16 := HK.out.2.2
  have a2 : s.waits Y.length = 4 := by rw [HH.out.2.2.2.2.2.2.2.2.2]; exact HB.out.2.2.1
  have a3 : (s.fin Y).2 = 33 := HB.out.2.2.2.1
  have a4 : n8 = 24 := by rw [H8.out.1.1]; exact HB.out.2.2.2.2.1
  have a5 : (allF 3 true Z Z []).2 = 0 := HB.out.2.2.2.2.2.1
  have a6 : n10 = 16 := by rw [H10.out.1.len]; exact HB.out.2.2.2.2.2.2
  rw [a2, a3, a5]
  subst a1 a4 a6
  clear a2 a3 a5
  go_wp2_with fail
  go_ret
  exact ⟨rfl, HK.out.2.1.trans H10.out.2⟩
end Go.Proofs.Ytiocmebcbhbcmaa
namespace Go.Proofs.Ytiocmebcbhbcmaa
set_option maxRecDepth 100000
open Go.RowKit

theorem cnt1_twice (E : List UInt8 → List UInt8) (wd : Nat) (hE : ∀ l : List UInt8, l.length = 16 → E l ≠ []) : ∀ (a pad ctr : List UInt8), ctr.length = 16 → (cnt1 E wd (cnt1 E wd a pad ctr).1 pad ctr).1 = a
  | [], pad, ctr, hc => rfl
  | x :: a, y :: pad, ctr, hc => by
    have ih := cnt1_twice E wd hE a pad ctr hc
    simp only [cnt1]
    rw [ih, UInt8.xor_assoc, UInt8.xor_self, UInt8.xor_zero]
  | x :: a, [], ctr, hc => by
    cases h : E ctr with
    | nil => exact absurd h (hE ctr hc)
    | cons y p =>
      have ih := cnt1_twice E wd hE a p (stepL wd ctr) (by rw [stepL_len]; exact hc)
      simp only [cnt1, h]
      rw [ih, UInt8.xor_assoc, UInt8.xor_self, UInt8.xor_zero]
theorem blkF_back (mode : Nat) (E D : List UInt8 → List UInt8) (hE : ∀ l, l.length = 16 → (E l).length = 16) (hDE : ∀ l, l.length = 16 → D (E l) = l) (iv b : List UInt8) (hi : mode ≠ 1 → iv.length = 16) (hb : b.length = 16) :
    (blkF mode true E D iv b).1.length = 16 ∧ (mode ≠ 1 → (blkF mode true E D iv b).2.length = 16) ∧ blkF mode false E D iv (blkF mode true E D iv b).1 = (b, (blkF mode true E D iv b).2) := by
  unfold blkF
  by_cases hm : mode = 1
  · simp only [if_pos hm, if_true]
    refine ⟨hE b hb, fun h => absurd hm h, ?_⟩
    simp only [Bool.false_eq_true, if_false]
    rw [hDE b hb]
  · have hx : (xorL b iv).length = 16 := xorL_lenLe _ _ 16 hb (by rw [hi hm]; exact Nat.le_refl _)
    simp only [if_neg hm, if_true]
    refine ⟨hE _ hx, fun _ => hE _ hx, ?_⟩
    simp only [Bool.false_eq_true, if_false]
    rw [hDE _ hx, xorL_back _ _ (by rw [hb, hi hm])]
theorem blkN_back (mode : Nat) (E D : List UInt8 → List UInt8) (hE : ∀ l, l.length = 16 → (E l).length = 16) (hDE : ∀ l, l.length = 16 → D (E l) = l) : ∀ (q : Nat) (iv l : List UInt8), (mode ≠ 1 → iv.length = 16) → 16 * q ≤ l.length →
    (blkN mode true E D q iv l).1.length = 16 * q ∧ (mode ≠ 1 → (blkN mode true E D q iv l).2.length = 16) ∧ blkN mode false E D q iv (blkN mode true E D q iv l).1 = (l.take (16 * q), (blkN mode true E D q iv l).2)
  | 0, iv, l, hi, _ => ⟨rfl, hi, by simp [blkN]⟩
  | q + 1, iv, l, hi, hl => by
    have hb : (l.take 16).length = 16 := by rw [List.length_take]; omega
    obtain ⟨h1, h2, h3⟩ := blkF_back mode E D hE hDE iv (l.take 16) hi hb
    obtain ⟨k1, k2, k3⟩ := blkN_back mode E D hE hDE q (blkF mode true E D iv (l.take 16)).2 (l.drop 16) h2 (by rw [List.length_drop]; omega)
    simp only [blkN]
    refine ⟨by rw [List.length_append, h1, k1]; omega, k2, ?_⟩
    rw [List.take_append_of_le_length (by omega), List.take_of_length_le (by omega), List.drop_append, List.drop_eq_nil_of_le (by omega), List.nil_append, h1, Nat.sub_self, List.drop_zero, h3]
    simp only
    rw [k3]
    simp only
    rw [show 16 * (q + 1) = 16 + 16 * q by omega, List.take_add]
theorem strip_pad (r : List UInt8) (h : r.length < 16) : stripF (r ++ List.replicate (16 - r.length) (UInt8.ofNat (16 - r.length))) = (r, 0) := by
  obtain ⟨n, hn⟩ : ∃ n, 16 - r.length = n := ⟨_, rfl⟩
  have h1 : 1 ≤ n ∧ n ≤ 16 := by omega
  have hz : (UInt8.ofNat n).toNat = n := by rw [UInt8.toNat_ofNat']; exact Nat.mod_eq_of_lt (by omega)
  have hg : (r ++ List.replicate n (UInt8.ofNat n)).getD 15 0 = UInt8.ofNat n := by
    rw [List.getD_eq_getElem?_getD, List.getElem?_append_right (by omega), List.getElem?_replicate_of_lt (by omega)]
    rfl
  rw [hn]
  unfold stripF
  rw [hg, hz, show 16 - n = r.length by omega, List.drop_left', if_pos ⟨h1.1, h1.2, rfl⟩, List.take_left']
  · rfl
  · rfl
theorem tagL_len (E : List UInt8 → List UInt8) (data out mask : List UInt8) (hm : mask.length = 16) : (tagL E data out mask).length = 16 := by
  unfold tagL
  exact xorL_lenLe _ _ 16 (by unfold gh; simp [wr16, bytes64]) (by rw [hm]; exact Nat.le_refl _)
theorem PS.j_len (s : PS) (h : parOk s.mode s.p) (hm : s.mode = 5) : s.j.length = 16 := by
  have h1 := s.c0_len h (.inr hm)
  unfold PS.c0 at h1
  rw [if_neg (by omega), stepL_len] at h1
  exact h1
/-- What the law asks of a text: of ECB and CBC whole blocks. -/
theorem all_back (mode : Int) (k p b : List UInt8) (hb : mode = 1 ∨ mode = 2 → b.length % 16 = 0) : ((allF mode true k p b).2 ≠ 0 → mayF mode k p = (allF mode true k p b).2) ∧ ((allF mode true k p b).2 = 0 → allF mode false k p (allF mode true k p b).1 = (b, 0)) ∧ (allF mode true k p b).1.length ≤ b.length + 32 := by
  unfold allF mayF
  by_cases hmode : mode < 1 ∨ 5 < mode
  · rw [if_pos hmode, if_pos hmode]
    exact ⟨fun _ => rfl, fun h => (by cases h), by simp⟩
  rw [if_neg hmode, if_neg hmode]
  by_cases hk : keyOk k
  case neg =>
    rw [if_pos hk, if_pos hk]
    exact ⟨fun _ => rfl, fun h => (by cases h), by simp⟩
  have hk' : ¬ ¬ keyOk k := fun h => h hk
  rw [if_neg hk', if_neg hk']
  by_cases hp : parOk mode.toNat p
  case neg =>
    rw [if_pos hp, if_pos hp]
    exact ⟨fun _ => rfl, fun h => (by cases h), by simp⟩
  have hp' : ¬ ¬ parOk mode.toNat p := fun h => h hp
  rw [if_neg hp', if_neg hp']
  obtain ⟨M, hM⟩ : ∃ M, mode.toNat = M := ⟨_, rfl⟩
  have hmi : mode = (M : Int) := by omega
  have hM5 : 1 ≤ M ∧ M ≤ 5 := by omega
  rw [hM] at hp
  have hp2 : ¬ ¬ parOk M p := fun h => h hp
  rw [hM, if_neg hmode, if_neg hk', if_neg hp2]
  have hks : (rks k).length = 16 * ((rks k).length / 16) := by have := rks_len k hk; omega
  have hR0 : 0 < (rks k).length / 16 := by have := rks_len k hk; omega
  obtain ⟨S, hS⟩ : ∃ S, PSof M true k p = S := ⟨_, rfl⟩
  obtain ⟨T, hT⟩ : ∃ T, PSof M false k p = T := ⟨_, rfl⟩
  have hE : ∀ l : List UInt8, l.length = 16 → (S.E l).length = 16 := fun l hl => by rw [← hS]; exact enc_ne _ _ l hl hks
  have hDE : ∀ l : List UInt8, l.length = 16 → S.D (S.E l) = l := fun l hl => by rw [← hS]; exact dec_of_enc _ _ l hks hR0 hl
  have hTE : T.E = S.E := by rw [← hS, ← hT]; rfl
  have hTD : T.D = S.D := by rw [← hS, ← hT]; rfl
  have sm : S.mode = M := by rw [← hS]; rfl
  have tm : T.mode = M := by rw [← hT]; rfl
  have se : S.enc = true := by rw [← hS]; rfl
  have te : T.enc = false := by rw [← hT]; rfl
  have sp : S.p = p := by rw [← hS]; rfl
  have tp : T.p = p := by rw [← hT]; rfl
  have hcn : ∀ l, T.cn l = S.cn l := fun l => by rw [← hS, ← hT]; rfl
  have hj : T.j = S.j := by rw [← hS, ← hT]; rfl
  have hda : T.data = S.data := by rw [← hS, ← hT]; rfl
  have hEn : ∀ l : List UInt8, l.length = 16 → S.E l ≠ [] := fun l hl h => by have := hE l hl; rw [h] at this; cases this
  rw [hS, hT]
  by_cases h4 : M = 4
  · have hc0 := S.c0_len (by rw [sm, sp]; exact hp) (by rw [sm]; exact .inl h4)
    have f1 : S.fin b = ([], 0) := by unfold PS.fin; rw [sm, if_pos h4]
    have f2 : T.fin ((S.cn b).1) = ([], 0) := by unfold PS.fin; rw [tm, if_pos h4]
    have g1 : S.front b = (S.cn b).1 := by unfold PS.front; rw [sm, if_pos h4]
    have g2 : T.front (S.cn b).1 = b := by
      unfold PS.front
      rw [tm, if_pos h4, hcn]
      exact cnt1_twice S.E S.wd hEn b [] S.c0 hc0
    rw [f1, g1, if_pos rfl]
    refine ⟨fun h => absurd rfl h, fun _ => ?_, ?_⟩
    rotate_left
    · have h1 := cnt1_le S.E S.wd b [] S.c0
      have h2 : (S.cn b).1.length ≤ b.length := h1
      simp only [List.append_nil]
      omega
    simp only [List.append_nil]
    rw [f2, g2, if_pos rfl, List.append_nil]
  by_cases h5 : M = 5
  · have hpo : parOk S.mode S.p := by rw [sm, sp]; exact hp
    have hc0 := S.c0_len hpo (by rw [sm]; exact .inr h5)
    have hjl := S.j_len hpo (by rw [sm]; exact h5)
    have htl : (tagL S.E S.data (S.cn b).1 (S.E S.j)).length = 16 := tagL_len _ _ _ _ (hE _ hjl)
    obtain ⟨tg, htg⟩ : ∃ t, tagL S.E S.data (S.cn b).1 (S.E S.j) = t := ⟨_, rfl⟩
    have f1 : S.fin b = (tg, 0) := by unfold PS.fin; rw [sm, if_neg (by omega), if_pos h5, se, if_pos rfl, htg]
    have g1 : S.front b = (S.cn b).1 := by unfold PS.front; rw [sm, if_neg (by omega), if_pos h5, se, if_pos rfl]
    have g2 : T.front ((S.cn b).1 ++ tg) = [] := by unfold PS.front; rw [tm, if_neg (by omega), if_pos h5, te, if_neg (by decide)]
    have hln : ((S.cn b).1 ++ tg).length - 16 = (S.cn b).1.length := by rw [List.length_append, ← htg, htl]; omega
    have f2 : T.fin ((S.cn b).1 ++ tg) = (b, 0) := by
      unfold PS.fin
      rw [tm, if_neg (by omega), if_pos h5, te, if_neg (by decide)]
      unfold PS.open_
      rw [if_neg (by rw [List.length_append, ← htg, htl]; omega), hln, List.take_left', List.drop_left', hTE, hj, hda, if_pos htg, hcn]
      · exact congrArg (·, (0 : Int)) (cnt1_twice S.E S.wd hEn b [] S.c0 hc0)
      · rfl
      · rfl
    rw [f1, g1, if_pos rfl]
    refine ⟨fun h => absurd rfl h, fun _ => ?_, ?_⟩
    rotate_left
    · have h1 := cnt1_le S.E S.wd b [] S.c0
      have h2 : (S.cn b).1.length ≤ b.length := h1
      have h3 : tg.length = 16 := by rw [← htg]; exact htl
      simp only [List.length_append]
      omega
    simp only
    rw [f2, g2, if_pos rfl, List.nil_append]
  have hiv : M ≠ 1 → p.length = 16 := fun h1 => by
    unfold parOk at hp
    rw [if_neg h1, if_neg h4, if_neg h5] at hp
    exact hp
  have sk : S.keep = 0 := by unfold PS.keep; rw [if_neg (by rw [se]; simp)]
  obtain ⟨q, hq⟩ : ∃ q, b.length / 16 = q := ⟨_, rfl⟩
  have snb : S.nb b.length = q := by unfold PS.nb; rw [sk]; exact hq
  have g1 : S.front b = (blkN M true S.E S.D q p b).1 := by unfold PS.front PS.blk; rw [sm, if_neg h4, if_neg h5, snb, se, sp]
  obtain ⟨k1, k2, k3⟩ := blkN_back M S.E S.D hE hDE q p b hiv (by omega)
  by_cases h3 : M = 3
  · obtain ⟨r, hr⟩ : ∃ r, b.drop (16 * q) = r := ⟨_, rfl⟩
    have hrl : r.length < 16 := by rw [← hr, List.length_drop]; omega
    obtain ⟨x, hx⟩ : ∃ x, r ++ List.replicate (16 - r.length) (UInt8.ofNat (16 - r.length)) = x := ⟨_, rfl⟩
    have hxl : x.length = 16 := by rw [← hx, List.length_append, List.length_replicate]; omega
    obtain ⟨j1, j2, j3⟩ := blkF_back M S.E S.D hE hDE (blkN M true S.E S.D q p b).2 x k2 hxl
    obtain ⟨o, ho⟩ : ∃ o, (blkF M true S.E S.D (blkN M true S.E S.D q p b).2 x).1 = o := ⟨_, rfl⟩
    have f1 : S.fin b = (o, 0) := by
      unfold PS.fin endB PS.blk
      rw [sm, if_neg h4, if_neg h5, if_pos h3, se, if_pos rfl, snb, hr, hx, sp, ho]
    rw [f1, g1, if_pos rfl]
    refine ⟨fun h => absurd rfl h, fun _ => ?_, ?_⟩
    rotate_left
    · have h3 : o.length = 16 := by rw [← ho]; exact j1
      simp only [List.length_append]
      omega
    simp only
    obtain ⟨F, hF⟩ : ∃ F, (blkN M true S.E S.D q p b).1 = F := ⟨_, rfl⟩
    rw [hF] at k1 k3 ⊢
    rw [ho] at j1 j3
    have hcl : (F ++ o).length = 16 * q + 16 := by rw [List.length_append, k1, j1]
    have tk : T.keep = 1 := by unfold PS.keep; rw [if_pos ⟨by rw [tm]; exact h3, te⟩]
    have tnb : T.nb (F ++ o).length = q := by unfold PS.nb; rw [tk, hcl]; omega
    have tb : T.blk (F ++ o) = (b.take (16 * q), (blkN M true S.E S.D q p b).2) := by
      unfold PS.blk
      rw [tm, te, tnb, tp, hTE, hTD, blkN_front M false S.E S.D q p F o (by omega)]
      exact k3
    have g2 : T.front (F ++ o) = b.take (16 * q) := by unfold PS.front; rw [tm, if_neg h4, if_neg h5, tb]
    have hdr : (F ++ o).drop (16 * q) = o := List.drop_left' k1
    have f2 : T.fin (F ++ o) = (r, 0) := by
      unfold PS.fin endB
      rw [tm, if_neg h4, if_neg h5, if_pos h3, te, if_neg (by decide), tnb, hdr, if_pos j1, tb, hTE, hTD]
      simp only
      rw [j3]
      simp only
      rw [← hx]
      exact strip_pad r hrl
    rw [f2, g2, if_pos rfl, ← hr, List.take_append_drop]
  · have hb0 : b.length % 16 = 0 := hb (by omega)
    have hdn : b.drop (16 * q) = [] := List.drop_eq_nil_of_le (by omega)
    have f1 : S.fin b = ([], 0) := by
      unfold PS.fin endB
      rw [sm, if_neg h4, if_neg h5, if_neg h3, snb, hdn, if_pos rfl]
    rw [f1, g1, if_pos rfl]
    refine ⟨fun h => absurd rfl h, fun _ => ?_, ?_⟩
    rotate_left
    · simp only [List.append_nil]
      omega
    simp only [List.append_nil]
    obtain ⟨F, hF⟩ : ∃ F, (blkN M true S.E S.D q p b).1 = F := ⟨_, rfl⟩
    rw [hF] at k1 k3 ⊢
    have tk : T.keep = 0 := by unfold PS.keep; rw [if_neg (by rw [tm]; omega)]
    have tnb : T.nb F.length = q := by unfold PS.nb; rw [tk, k1]; omega
    have tb : T.blk F = (b.take (16 * q), (blkN M true S.E S.D q p b).2) := by
      unfold PS.blk
      rw [tm, te, tnb, tp, hTE, hTD]
      exact k3
    have g2 : T.front F = b := by unfold PS.front; rw [tm, if_neg h4, if_neg h5, tb]; exact List.take_of_length_le (by omega)
    have f2 : T.fin F = ([], 0) := by
      unfold PS.fin endB
      rw [tm, if_neg h4, if_neg h5, if_neg h3, tnb, List.drop_eq_nil_of_le (by omega), if_pos rfl]
    rw [f2, g2, if_pos rfl, List.append_nil]
end Go.Proofs.Ytiocmebcbhbcmaa
