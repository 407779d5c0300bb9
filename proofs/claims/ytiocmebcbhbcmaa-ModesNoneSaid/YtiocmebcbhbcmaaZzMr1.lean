/-
  Modes: the law's begun.
  Modes, the document's answer: Param, May.
-/
import Derived.Test.YtiocmebcbhbcmaaMo22
import Derived.Test.YtiocmebcbhbcmaaZzMo14
namespace Go.Proofs.Ytiocmebcbhbcmaa
set_option maxRecDepth 100000
open Go.RowKit

theorem keyE (k : List UInt8) (h : keyOk k) (l : List UInt8) (hl : l.length = 16) : (encL (rks k) ((rks k).length / 16) l).length = 16 := by
  have := rks_len k h
  exact enc_ne _ _ l hl (by omega)
theorem wrF_len (E : List UInt8 → List UInt8) (hE : ∀ l, l.length = 16 → (E l).length = 16) (n s : Nat) (r : List UInt8) (hn : 0 < n) (hr : r.length = 8 * n + 8) : (wrF E n s r).length = r.length := by
  have hi := wrI_le n s hn
  have h8 : 8 ≤ wrI n s := by unfold wrI; omega
  have hx : (wrX E n s r).length = 16 := hE _ (by rw [List.length_append, List.length_take, List.length_take, List.length_drop]; omega)
  have hy : (wrY E n s r).length = 8 := xorL_lenLe _ _ 8 (by rw [List.length_take]; omega) (by rw [bytes64_len]; exact Nat.le_refl _)
  unfold wrF
  rw [length_splice _ _ _ (by rw [length_splice _ _ _ (by omega), List.length_drop]; omega), length_splice _ _ _ (by omega)]
theorem wrN_len (E : List UInt8 → List UInt8) (hE : ∀ l, l.length = 16 → (E l).length = 16) (n : Nat) (hn : 0 < n) (r : List UInt8) (hr : r.length = 8 * n + 8) : ∀ s, (wrN E n s r).length = r.length
  | 0 => rfl
  | s + 1 => by
    have ih := wrN_len E hE n hn r hr s
    show (wrF E n s (wrN E n s r)).length = _
    rw [wrF_len E hE n s _ hn (by omega), ih]
theorem wrapF_len (E : List UInt8 → List UInt8) (hE : ∀ l, l.length = 16 → (E l).length = 16) (b : List UInt8) (h : wrapLen b.length) : (wrapF E b).length = b.length + 8 := by
  obtain ⟨h1, h2, h3⟩ := h
  unfold wrapF
  rw [wrN_len E hE _ (by omega) _ (by simp [sgn]; omega)]
  simp [sgn]
theorem beg_ecb (s : PS) (hm : s.mode = 1) (he : s.enc = true) (hE : ∀ l, l.length = 16 → (s.E l).length = 16) (b : List UInt8) (hb : b.length = 20) : (s.front b).length = 16 ∧ s.waits b.length = 4 ∧ (s.fin b).2 = 33 := by
  have hk : s.keep = 0 := by unfold PS.keep; rw [if_neg (fun h => by omega)]
  have hn : s.nb b.length = 1 := by unfold PS.nb; rw [hk, hb]
  have m4 : ¬ s.mode = 4 := by omega
  have m5 : ¬ s.mode = 5 := by omega
  have m3 : ¬ s.mode = 3 := by omega
  refine ⟨?_, ?_, ?_⟩
  · unfold PS.front
    rw [if_neg m4, if_neg m5]
    unfold PS.blk
    rw [hn]
    simp only [blkN, List.append_nil]
    unfold blkF
    rw [if_pos hm, he]
    show (s.E _).length = 16
    exact hE _ (by rw [List.length_take]; omega)
  · unfold PS.waits
    rw [if_neg m4, if_neg m5, hn, hb]
  · unfold PS.fin
    rw [if_neg m4, if_neg m5]
    unfold endB
    rw [if_neg m3, if_neg ?_, he]
    · rfl
    · intro e
      have := congrArg List.length e
      rw [List.length_drop, hn, hb] at this
      simp at this
theorem beg_pad (s : PS) (hm : s.mode = 3) (he : s.enc = true) (hE : ∀ l, l.length = 16 → (s.E l).length = 16) (hp : s.p.length = 16) : (s.fin []).2 = 0 ∧ (s.front [] ++ (s.fin []).1).length = 16 := by
  have m4 : ¬ s.mode = 4 := by omega
  have m5 : ¬ s.mode = 5 := by omega
  have h1 : (s.blk []).2 = s.p := by unfold PS.blk; rw [PS.nb0]; rfl
  have hf : s.fin [] = ((blkF s.mode s.enc s.E s.D s.p (List.replicate 16 (UInt8.ofNat 16))).1, 0) := by
    unfold PS.fin
    rw [if_neg m4, if_neg m5]
    unfold endB
    rw [if_pos hm, if_pos he, h1]
    simp
  rw [hf, PS.front_nil, List.nil_append]
  refine ⟨rfl, ?_⟩
  unfold blkF
  rw [if_neg (by omega), if_pos he]
  exact hE _ (xorL_lenLe _ _ 16 (by simp) (by omega))
theorem allF_pad (k p : List UInt8) (hk : keyOk k) (hp : p.length = 16) : (allF 3 true k p []).2 = 0 ∧ (allF 3 true k p []).1.length = 16 := by
  have hpo : parOk 3 p := by unfold parOk; rw [if_neg (by decide), if_neg (by decide), if_neg (by decide)]; exact hp
  obtain ⟨h1, h2⟩ := beg_pad (PSof 3 true k p) rfl rfl (keyE k hk) hp
  have hr : allF 3 true k p [] = ((PSof 3 true k p).front [] ++ ((PSof 3 true k p).fin []).1, 0) := by
    unfold allF
    rw [if_neg (by decide), if_neg (fun h => h hk), show (3 : Int).toNat = 3 from rfl, if_neg (fun h => h hpo), if_pos h1]
  rw [hr]
  exact ⟨rfl, h2⟩
theorem beg_facts (k b : List UInt8) (hk : k.length = 16) (hb : b.length = 20) : keyOk k ∧ ((PSof 1 true k []).front b).length = 16 ∧ (PSof 1 true k []).waits b.length = 4 ∧ ((PSof 1 true k []).fin b).2 = 33 ∧ (wrapF (encL (rks k) ((rks k).length / 16)) k).length = 24 ∧
    (allF 3 true k k []).2 = 0 ∧ (allF 3 true k k []).1.length = 16 := by
  have hko : keyOk k := .inl hk
  have hE := keyE k hko
  obtain ⟨h1, h2, h3⟩ := beg_ecb (PSof 1 true k []) rfl rfl hE b hb
  obtain ⟨h4, h5⟩ := allF_pad k k hko hk
  exact ⟨hko, h1, h2, h3, by rw [wrapF_len _ hE _ (by rw [hk]; decide), hk], h4, h5⟩
theorem StrG.turn {w w' : World} {G S : List Nat} {d : Nat} {s : PS} {wl ctr pl ol : List UInt8} {x : GX} {W P M D O : Vw} (h : StrG w G d s wl ctr pl ol x W P M D O) (ht : Turn S w w') (hn : ∀ x ∈ G, x ∉ S) : StrG w' G d s wl ctr pl ol x W P M D O := by
  have hd : x.d ∉ S := hn _ (by rw [h.xd]; exact h.g1.1)
  refine ⟨h.xd, h.xm, h.xe, h.xk, h.xr, h.xw, ⟨⟨h.gc.cnt.ok, h.gc.cnt.blk.turn ht hd, h.gc.cnt.cip.turn ht (hn _ h.g1.2.1) (hn _ h.g1.2.2.1), h.gc.cnt.ctr.turn ht (hn _ h.g1.2.2.2), h.gc.cnt.pad.turn ht (fun ad e => hn _ (h.g2 ad (.inr (.inl e)))), h.gc.cnt.ne⟩, h.gc.wait.turn ht (fun ad e => hn _ (h.g2 ad (.inl e))),
    Rd.turn h.gc.mask ht (fun ad e => hn _ (h.g2 ad (.inr (.inr (.inl e))))), h.gc.m16, Rd.turn h.gc.data ht (fun ad e => hn _ (h.g2 ad (.inr (.inr (.inr (.inl e)))))), h.gc.out.turn ht (fun g hg => ?_), h.gc.sg, h.gc.sw, h.gc.aw, h.gc.ao⟩, h.wl, h.pl, h.ol, h.md, h.wn, h.on, h.g1, h.g2⟩
  cases hA : O.A with
  | none => rw [Vw.v, hA] at hg; simp [Value.ownBlock] at hg
  | some ad => rw [Vw.v, hA] at hg; simp [Value.ownBlock] at hg; subst hg; exact hn _ (h.g2 ad (.inr (.inr (.inr (.inr hA)))))
theorem StrAt.turn {w w' : World} {G S : List Nat} {d : Nat} {s : PS} {all : List UInt8} (h : StrAt w G d s all) (ht : Turn S w w') (hS : ∀ x ∈ S, x ∉ G) : StrAt w' G d s all := by
  have hn : ∀ x ∈ G, x ∉ S := fun x hx hm => hS x hm hx
  rcases h with ⟨hm, x, W, m, cw, L, nl, cl, h⟩ | ⟨hm, x, W, P, M, D, O, h⟩ | ⟨hm, he, x, W, P, M, D, O, h⟩ | ⟨hm, he, x, W, P, M, D, O, h⟩
  · refine .inl ⟨hm, x, W, m, cw, L, nl, cl, ⟨h.xd, h.xm, h.xe, h.xk, h.xr, ⟨⟨h.bk.bkc.blk.turn ht (hn _ (by rw [h.xd]; exact h.g1.1)), h.bk.bkc.cip.turn ht (hn _ h.g1.2.1) (hn _ h.g1.2.2), h.bk.bkc.last.turn ht (fun ad e => hn _ (h.g2 ad (.inr e))), h.bk.bkc.l16⟩, h.bk.wait.turn ht (fun ad e => hn _ (h.g2 ad (.inl e))), h.bk.ahead, h.bk.sep⟩, h.g1, h.g2⟩⟩
  · exact .inr (.inl ⟨hm, x, W, P, M, D, O, h.turn ht hn⟩)
  · exact .inr (.inr (.inl ⟨hm, he, x, W, P, M, D, O, h.turn ht hn⟩))
  · exact .inr (.inr (.inr ⟨hm, he, x, W, P, M, D, O, h.turn ht hn⟩))
theorem StrAt.below {w w' : World} {G : List Nat} {d : Nat} {s : PS} {all : List UInt8} (h : StrAt w G d s all) (hb : Old w w') : StrAt w' G d s all := h.turn (Turn.of_below [] hb) (fun x hx => by cases hx)
set_option maxHeartbeats 4000000 in
theorem mbegun_any (w : World) : Calls Try.prog 11 #[] w fun e w' => e = .returned (.bool true) ∧ Old w w' := by
  obtain ⟨Z, hZ⟩ : ∃ Z, zs 16 = Z := ⟨_, rfl⟩
  obtain ⟨Y, hY⟩ : ∃ Y, zs 20 = Y := ⟨_, rfl⟩
  have hZl : Z.length = 16 := by rw [← hZ]; exact zs_len 16
  have hYl : Y.length = 20 := by rw [← hY]; exact zs_len 20
  obtain ⟨bk, b1, b2, b3, b4, b5, b6⟩ := beg_facts Z Y hZl hYl
  rw [hYl] at b2
  have hmk := Try.prog_make 16 (by omega) w
  obtain ⟨w1, hw1⟩ : ∃ w1, w.alloc (.cells (madeCells #[.int .u8 0] 16) 5) = w1 := ⟨_, rfl⟩
  have hO1 : Own w1 w.heap.size (.slice (some ⟨w.heap.size, 0, none⟩) 16 16) Z := by rw [← hw1, ← hZ]; exact Own.made w 16 (by unfold maxLen; omega)
  have hB1 : Old w w1 := by rw [← hw1]; exact (Old.refl _).alloc _
  rw [hw1, show ((16 : Nat) : Int) = 16 from rfl] at hmk
  obtain ⟨X, hX⟩ : ∃ X, w.heap.size = X := ⟨_, rfl⟩
  rw [hX] at hmk hO1
  have hpost : ∀ e w', NewPost w1 1 true Z [] e w' → ∃ d, e = .returned (.tuple #[.pointer (some ⟨d, 0, none⟩), .int .i64 0]) ∧ NewRes w1 (PSof 1 true Z []) w' d := fun e w' h => by
    unfold NewPost at h
    rwa [if_neg (fun h => h bk), if_neg (fun h => h (by unfold parOk; rw [if_pos rfl]))] at h
  have hnew := (modesNew_any 1 true (some ⟨X, 0, none⟩) none 16 16 0 0 Z [] w1 hO1.rd (Rd.nil _) (by omega) (by omega) (by omega)).mono hpost
  rw [show ((1 : Nat) : Int) = 1 from rfl] at hnew
  have hdl : (PSof 1 true Z []).data.length ≤ 100000 := by unfold PS.data PSof; simp
  have hc0 : (PSof 1 true Z []).mode = 4 ∨ (PSof 1 true Z []).mode = 5 → (PSof 1 true Z []).c0.length = 16 := fun h => by rcases h with h | h <;> cases h
  obtain ⟨s, hs⟩ : ∃ s, PSof 1 true Z [] = s := ⟨_, rfl⟩
  rw [hs] at b1 b2 b3 hnew hdl hc0
  have HH := Lib.hid (And.intro hO1 (And.intro hB1 (And.intro hnew (And.intro hdl (And.intro hc0 (And.intro hX (And.intro hZ (And.intro hY (And.intro hZl hYl)))))))))
  have HB := Lib.hid (And.intro bk (And.intro b1 (And.intro b2 (And.intro b3 (And.intro b4 (And.intro b5 b6))))))
  clear hO1 hB1 hnew hdl hc0 hX hw1 bk b1 b2 b3 b4 b5 b6 hpost hZ hY hZl hYl hs
  go_enter Try.func11, Try.ntmps11
  go_upto_region 5 with (go_at_call 16; refine HH.out.2.2.1.mono ?_; rintro e w2 ⟨d, rfl, G, hS, hG, hO⟩; have H2 := Lib.hid (And.intro hS (And.intro hG hO)); clear hS hG hO)
  clear hmk
  have hmk := Try.prog_make 20 (by omega) w2
  obtain ⟨w3, hw3⟩ : ∃ w3, w2.alloc (.cells (madeCells #[.int .u8 0] 20) 5) = w3 := ⟨_, rfl⟩
  have hO3 : Own w3 w2.heap.size (.slice (some ⟨w2.heap.size, 0, none⟩) 20 20) Y := by rw [← hw3, ← HH.out.2.2.2.2.2.2.2.1]; exact Own.made w2 20 (by unfold maxLen; omega)
  have hB3 : Old w2 w3 := by rw [← hw3]; exact (Old.refl _).alloc _
  rw [hw3, show ((20 : Nat) : Int) = 20 from rfl] at hmk
  have H3 := Lib.hid (And.intro hO3 hB3)
  clear hO3 hB3 hw3
  go_upto_region 8 with (first | (go_at_call 17; refine (update_any G d s [] (some ⟨w2.heap.size, 0, none⟩) 20 20 Y w3 (StrAt.below H2.out.1 H3.out.2) HH.out.2.2.2.2.1 H3.out.1.rd (fun ad e hm => by cases e; have h1 := (H2.out.2.1 _ hm).2; simp only at h1; omega) (fun x hx => Nat.lt_of_lt_of_le (H2.out.2.1 x hx).2 H3.out.2.size) (by simp)).mono ?_; rintro e w4 ⟨A4, n4, c4, G4, rfl, u1, u2, u3, u4, u5, u6, u7⟩; have H4 := Lib.hid (And.intro u1 (And.intro u2 (And.intro u3 (And.intro u4 (And.intro u6 u7))))); clear u1 u2 u3 u4 u5 u6 u7) | (go_at_call 19; refine (holds_any G4 d s _ w4 H4.out.2.1).mono ?_; rintro e w5 ⟨rfl, rfl⟩) | (go_at_call 21; refine (final_any G4 d s _ w4 H4.out.2.1 HH.out.2.2.2.2.1 HH.out.2.2.2.1 (by rw [List.nil_append, HH.out.2.2.2.2.2.2.2.2.2]; omega)).mono ?_; rintro e w6 ⟨A6, n6, c6, rfl, v1, v2, v3, v4⟩; have H6 := Lib.hid (And.intro v1 v3); clear v1 v2 v3 v4))
  clear hmk
  have hX1 : X < w1.heap.size := (HH.out.1.lt (g := X) rfl).2
  have hGX : ∀ x ∈ G, X < x := fun x hx => by have := (H2.out.2.1 x hx).1; omega
  have hsz1 : w1.heap.size ≤ w2.heap.size := H2.out.2.2.size
  have hT4 : Turn G w2 w4 := (Turn.of_below G H3.out.2).trans H4.out.2.2.1 (fun x hx => .inl hx)
  have hk4 : Rd w4 (some ⟨X, 0, none⟩) 16 16 Z := (HH.out.1.rd.below H2.out.2.2).turn hT4 (fun ad e hm => by cases e; have := hGX _ hm; simp only at this; omega)
  have hG4X : ∀ x ∈ G4, X < x := fun x hx => by
    rcases H4.out.2.2.2.1 x hx with h | h
    · exact hGX x h
    · have := H3.out.2.size; omega
  have hk6 : Rd w6 (some ⟨X, 0, none⟩) 16 16 Z := hk4.turn H6.out.2 (fun ad e hm => by cases e; have := hG4X _ hm; simp only at this; omega)
  have hO6 : Old w w6 := by
    have h1 : Old w w2 := HH.out.2.1.trans H2.out.2.2
    have h2 : ∀ x ∈ G, w.heap.size ≤ x := fun x hx => Nat.le_trans HH.out.2.1.size (H2.out.2.1 x hx).1
    have h3 := h1.turnG hT4 h2
    exact h3.turnG H6.out.2 (fun x hx => by have := hG4X x hx; have := HH.out.2.2.2.2.2.1; omega)
  have hn4 : n4 = 16 := by
    have h1 := H4.out.1.len
    rw [List.nil_append, s.front_nil] at h1
    simp only [List.length_nil, List.drop_zero] at h1
    rw [h1]; exact HB.out.2.1
  have HK := Lib.hid (And.intro hk6 (And.intro hO6 hn4))
  have hYl := HH.out.2.2.2.2.2.2.2.2.2
  have hmk := Try.prog_make 16 (by omega) w6
  obtain ⟨w7, hw7⟩ : ∃ w7, w6.alloc (.cells (madeCells #[.int .u8 0] 16) 5) = w7 := ⟨_, rfl⟩
  have hO7 : Own w7 w6.heap.size (.slice (some ⟨w6.heap.size, 0, none⟩) 16 16) Z := by rw [← hw7, ← HH.out.2.2.2.2.2.2.1]; exact Own.made w6 16 (by unfold maxLen; omega)
  have hB7 : Old w6 w7 := by rw [← hw7]; exact (Old.refl _).alloc _
  rw [hw7, show ((16 : Nat) : Int) = 16 from rfl] at hmk
  have H7 := Lib.hid (And.intro hO7.rd hB7)
  have hwl : wrapLen 16 := by decide
  clear hO7 hB7 hw7 hGX hsz1 hT4 hk4 hG4X hk6 hO6 hn4 hYl
  go_upto_region 9 with (go_at_call 26; refine (wrap_any _ _ 16 16 16 16 Z Z w7 (HK.out.1.below H7.out.2) H7.out.1 HB.out.1 hwl).mono ?_; rintro e w8 ⟨A8, n8, c8, rfl, v1, v2⟩; have H8 := Lib.hid (And.intro v1 (H7.out.2.trans v2)); clear v1 v2)
  clear hmk hwl
  go_upto_region 11 with (first | (go_at_call 22; refine (cmac_any _ none 16 16 0 0 Z [] w8 (HK.out.1.below H8.out.2) (Rd.nil _) HB.out.1 (by omega)).mono ?_; rintro e w9 ⟨g9, rfl, v1, v2⟩; have H9 := Lib.hid (Old.trans H8.out.2 v2); clear v1 v2) | (go_at_call 13; refine (modesAll_any 3 true _ _ none 16 16 16 16 0 0 Z Z [] w9 (HK.out.1.below H9.out) (HK.out.1.below H9.out) (Rd.nil _) (by omega) (by omega)).mono ?_; rintro e w10 ⟨A10, n10, c10, rfl, v1, v2⟩; have H10 := Lib.hid (And.intro v1 (H9.out.trans v2)); clear v1 v2))
  have a1 : n4 = 16 := HK.out.2.2
  have a2 : s.waits Y.length = 4 := by rw [HH.out.2.2.2.2.2.2.2.2.2]; exact HB.out.2.2.1
  have a3 : (s.fin Y).2 = 33 := HB.out.2.2.2.1
  have a4 : n8 = 24 := by rw [H8.out.1.1]; exact HB.out.2.2.2.2.1
  have a5 : (allF 3 true Z Z []).2 = 0 := HB.out.2.2.2.2.2.1
  have a6 : n10 = 16 := by rw [H10.out.1.len]; exact HB.out.2.2.2.2.2.2
  rw [a2, a3, a5]
  subst a1 a4 a6
  clear a2 a3 a5
  go_wp2_with fail
  go_ret
  exact ⟨rfl, HK.out.2.1.trans H10.out.2⟩
end Go.Proofs.Ytiocmebcbhbcmaa
namespace Go.Proofs.Ytiocmebcbhbcmaa
set_option maxRecDepth 100000
open Go.RowKit

def leN (x : UInt8) (n : Int) : Bool := decide ((x.toNat : Int) ≤ n)
theorem leqI_B (t : TypeId) (x : UInt8) (n : Int) : binOp .leq t (B x) (.int .u8 n) = pure (.bool (leN x n)) := by
  rw [show B x = .int .u8 (x.toNat : Int) from rfl]
  exact binOp_leq t .u8 _ _
attribute [local go_sem] leqI_B
def mayF (mode : Int) (k p : List UInt8) : Int := if mode < 1 ∨ 5 < mode then 112 else if ¬ keyOk k then 98 else if ¬ parOk mode.toNat p then 113 else 0
theorem par0 {A : Option Addr} {m c : Nat} {p : List UInt8} {w : World} (hp : Rd w A m c p) (h : 0 < m) : ∃ b off z, A = some ⟨b, off, none⟩ ∧ p.getD 0 0 = z ∧ w.cell? ⟨b, off, none⟩ = some (B z) := by
  obtain ⟨b, off, hA, hat⟩ := hp.addr h
  obtain ⟨z, hz⟩ : ∃ z, p[0]? = some z := ⟨_, List.getElem?_eq_getElem (by have := hp.1; omega)⟩
  have := hat.2 0 z hz
  rw [Nat.add_zero] at this
  exact ⟨b, off, z, hA, by rw [List.getD_eq_getElem?_getD, hz]; rfl, this⟩
set_option maxHeartbeats 1000000 in
theorem rparam_any (mode : Nat) (A : Option Addr) (m c : Nat) (p : List UInt8) (w : World) (hp : Rd w A m c p) (h1 : 1 ≤ mode) (h5 : mode ≤ 5) (hm : m ≤ 100000000) :
    Calls Try.prog 30 #[.int .i64 (mode : Int), .slice A m c] w fun e w' => e = .returned (.bool (decide (parOk mode p))) ∧ w = w' := by
  have hml := hp.1
  have hmode : mode = 1 ∨ mode = 2 ∨ mode = 3 ∨ mode = 4 ∨ mode = 5 := by omega
  have hcase : ∀ (n : Nat) (q : Bool), decide (parOk mode p) = q → q = decide (parOk mode p) := fun _ _ h => h.symm
  rcases hmode with rfl | rfl | rfl | rfl | rfl
  · have hd : decide (parOk 1 p) = ((m : Int) == 0) := by
      have hpo : parOk 1 p ↔ p = [] := by unfold parOk; rw [if_pos rfl]
      by_cases h : m = 0
      · rw [decide_eq_true (hpo.2 (List.length_eq_zero_iff.1 (by omega))), h]; rfl
      · rw [decide_eq_false (fun e => h (by have := hpo.1 e; rw [this] at hml; simpa using hml))]; symm; simp; omega
    rw [hd, show ((1 : Nat) : Int) = 1 from rfl]
    clear hp hml hcase hd
    go_enter Try.func30, Try.ntmps30
    go_wp2_with fail
    go_ret
    exact ⟨rfl, rfl⟩
  · have hd : decide (parOk 2 p) = ((m : Int) == 16) := by
      have hpo : parOk 2 p ↔ p.length = 16 := by unfold parOk; rw [if_neg (by decide), if_neg (by decide), if_neg (by decide)]
      by_cases h : m = 16
      · rw [decide_eq_true (hpo.2 (by omega)), h]; rfl
      · rw [decide_eq_false (fun e => h (by have := hpo.1 e; omega))]; symm; simp; omega
    rw [hd, show ((2 : Nat) : Int) = 2 from rfl]
    clear hp hml hcase hd
    go_enter Try.func30, Try.ntmps30
    go_wp2_with fail
    go_ret
    exact ⟨rfl, rfl⟩
  · have hd : decide (parOk 3 p) = ((m : Int) == 16) := by
      have hpo : parOk 3 p ↔ p.length = 16 := by unfold parOk; rw [if_neg (by decide), if_neg (by decide), if_neg (by decide)]
      by_cases h : m = 16
      · rw [decide_eq_true (hpo.2 (by omega)), h]; rfl
      · rw [decide_eq_false (fun e => h (by have := hpo.1 e; omega))]; symm; simp; omega
    rw [hd, show ((3 : Nat) : Int) = 3 from rfl]
    clear hp hml hcase hd
    go_enter Try.func30, Try.ntmps30
    go_wp2_with fail
    go_ret
    exact ⟨rfl, rfl⟩
  · have hpo : parOk 4 p ↔ p.length = 17 ∧ 1 ≤ (p.getD 0 0).toNat ∧ (p.getD 0 0).toNat ≤ 128 := by unfold parOk; rw [if_neg (by decide), if_pos rfl]
    obtain ⟨RB, hRB⟩ : ∃ b, decide (parOk 4 p) = b := ⟨_, rfl⟩
    rw [hRB, show ((4 : Nat) : Int) = 4 from rfl]
    by_cases h17 : m = 17
    · obtain ⟨b, off, z, rfl, hz, y0⟩ := par0 hp (by omega)
      rw [hz] at hpo
      subst h17
      by_cases g1 : 1 ≤ z.toNat
      · have g1' : geN z 1 = true := decide_eq_true (by omega)
        by_cases g2 : z.toNat ≤ 128
        · have g2' : leN z 128 = true := decide_eq_true (by omega)
          have hb : RB = true := by rw [← hRB]; exact decide_eq_true (hpo.2 ⟨hml.symm, g1, g2⟩)
          have HB := Lib.hid hb
          clear hp hml hcase hpo hRB hb hz g1 g2
          go_enter Try.func30, Try.ntmps30
          go_wp2_with fail
          go_ret
          have e := HB.out
          subst e
          exact ⟨rfl, rfl⟩
        · have g2' : leN z 128 = false := decide_eq_false (by omega)
          have hb : RB = false := by rw [← hRB]; exact decide_eq_false (fun e => g2 (hpo.1 e).2.2)
          have HB := Lib.hid hb
          clear hp hml hcase hpo hRB hb hz g1 g2
          go_enter Try.func30, Try.ntmps30
          go_wp2_with fail
          go_ret
          have e := HB.out
          subst e
          exact ⟨rfl, rfl⟩
      · have g1' : geN z 1 = false := decide_eq_false (by omega)
        have hb : RB = false := by rw [← hRB]; exact decide_eq_false (fun e => g1 (hpo.1 e).2.1)
        have HB := Lib.hid hb
        clear hp hml hcase hpo hRB hb hz g1
        go_enter Try.func30, Try.ntmps30
        go_wp2_with fail
        go_ret
        have e := HB.out
        subst e
        exact ⟨rfl, rfl⟩
    · have hb : RB = false := by rw [← hRB]; exact decide_eq_false (fun e => h17 (by rw [hml]; exact (hpo.1 e).1))
      have hb17 : ((m : Int) == 17) = false := by simp; omega
      have hi17 : ¬ (m : Int) = 17 := by omega
      have HB := Lib.hid hb
      clear hp hml hcase hpo hRB hb h17
      go_enter Try.func30, Try.ntmps30
      go_wp2_with fail
      go_ret
      have e := HB.out
      subst e
      exact ⟨rfl, rfl⟩
  · have hpo : parOk 5 p ↔ 2 ≤ p.length ∧ 1 ≤ (p.getD 0 0).toNat ∧ 1 + (p.getD 0 0).toNat ≤ p.length := by unfold parOk; rw [if_neg (by decide), if_neg (by decide), if_pos rfl]; rfl
    obtain ⟨RB, hRB⟩ : ∃ b, decide (parOk 5 p) = b := ⟨_, rfl⟩
    rw [hRB, show ((5 : Nat) : Int) = 5 from rfl]
    by_cases h2 : 2 ≤ m
    · obtain ⟨b, off, z, rfl, hz, y0⟩ := par0 hp (by omega)
      rw [hz] at hpo
      have i2 : (m : Int) ≥ 2 := by omega
      have d2 : decide ((m : Int) ≥ 2) = true := decide_eq_true i2
      have im : (0 : Int) < m := by omega
      have hcv := conv_Bi z w
      have hw : IntKind.i64.wrap ((m : Int) - 1) = (m : Int) - 1 := IntWalk.i64_in _ (by omega)
      by_cases g1 : 1 ≤ z.toNat
      · have g1' : geN z 1 = true := decide_eq_true (by omega)
        by_cases g2 : 1 + z.toNat ≤ m
        · have hb : RB = true := by rw [← hRB]; exact decide_eq_true (hpo.2 ⟨by omega, g1, by omega⟩)
          obtain ⟨n, hn⟩ : ∃ n, z.toNat = n := ⟨_, rfl⟩
          rw [hn] at hcv
          have g2' : (m : Int) - 1 ≥ (n : Int) := by omega
          have g2d : decide ((m : Int) - 1 ≥ (n : Int)) = true := decide_eq_true g2'
          have HB := Lib.hid hb
          clear hp hml hcase hpo hRB hb hz g1 g2 hn h2
          go_enter Try.func30, Try.ntmps30
          go_wp2_with fail
          go_ret
          have e := HB.out
          subst e
          exact ⟨rfl, rfl⟩
        · have hb : RB = false := by rw [← hRB]; exact decide_eq_false (fun e => g2 (by rw [hml]; exact (hpo.1 e).2.2))
          obtain ⟨n, hn⟩ : ∃ n, z.toNat = n := ⟨_, rfl⟩
          rw [hn] at hcv
          have g2' : ¬ (m : Int) - 1 ≥ (n : Int) := by omega
          have g2d : decide ((m : Int) - 1 ≥ (n : Int)) = false := decide_eq_false g2'
          have HB := Lib.hid hb
          clear hp hml hcase hpo hRB hb hz g1 g2 hn h2
          go_enter Try.func30, Try.ntmps30
          go_wp2_with fail
          go_ret
          have e := HB.out
          subst e
          exact ⟨rfl, rfl⟩
      · have g1' : geN z 1 = false := decide_eq_false (by omega)
        have hb : RB = false := by rw [← hRB]; exact decide_eq_false (fun e => g1 (hpo.1 e).2.1)
        have HB := Lib.hid hb
        clear hp hml hcase hpo hRB hb hz g1 h2 hcv hw
        go_enter Try.func30, Try.ntmps30
        go_wp2_with fail
        go_ret
        have e := HB.out
        subst e
        exact ⟨rfl, rfl⟩
    · have hb : RB = false := by rw [← hRB]; exact decide_eq_false (fun e => h2 (by rw [hml]; exact (hpo.1 e).1))
      have i2 : ¬ (m : Int) ≥ 2 := by omega
      have d2 : decide ((m : Int) ≥ 2) = false := decide_eq_false i2
      have HB := Lib.hid hb
      clear hp hml hcase hpo hRB hb h2
      go_enter Try.func30, Try.ntmps30
      go_wp2_with fail
      go_ret
      have e := HB.out
      subst e
      exact ⟨rfl, rfl⟩
set_option maxHeartbeats 1000000 in
theorem rmay_any (mode : Int) (A C : Option Addr) (mk ck m c : Nat) (k p : List UInt8) (w : World) (hk : Rd w A mk ck k) (hp : Rd w C m c p) (hm : m ≤ 100000000) :
    Calls Try.prog 14 #[.int .i64 mode, .slice A mk ck, .slice C m c] w fun e w' => e = .returned (.int .i64 (mayF mode k p)) ∧ w = w' := by
  obtain ⟨RB, hRB⟩ : ∃ b, mayF mode k p = b := ⟨_, rfl⟩
  rw [hRB]
  unfold mayF at hRB
  by_cases h1 : mode < 1
  · have d1 : decide (mode < 1) = true := decide_eq_true h1
    rw [if_pos (.inl h1)] at hRB
    subst hRB
    clear hk hp
    go_enter Try.func14, Try.ntmps14
    go_wp2_with fail
    go_ret
    exact ⟨rfl, rfl⟩
  · have d1 : decide (mode < 1) = false := decide_eq_false h1
    by_cases h5 : 5 < mode
    · have g5 : mode > 5 := h5
      have d5 : decide (mode > 5) = true := decide_eq_true h5
      rw [if_pos (.inr h5)] at hRB
      subst hRB
      clear hk hp h5
      go_enter Try.func14, Try.ntmps14
      go_wp2_with fail
      go_ret
      exact ⟨rfl, rfl⟩
    · have g5 : ¬ mode > 5 := h5
      have d5 : decide (mode > 5) = false := decide_eq_false h5
      rw [if_neg (by omega)] at hRB
      obtain ⟨mo, rfl⟩ := Int.eq_ofNat_of_zero_le (show 0 ≤ mode by omega)
      rw [Int.toNat_natCast] at hRB
      have hcall := rparam_any mo C m c p w hp (by omega) (by omega) hm
      have hkl := hk.1
      by_cases hko : keyOk k
      · rw [if_neg (fun h => h hko)] at hRB
        obtain ⟨q, hq⟩ : ∃ q, decide (parOk mo p) = q := ⟨_, rfl⟩
        rw [hq] at hcall
        have hR : RB = if q = true then 0 else 113 := by
          rw [← hRB]
          by_cases hpo : parOk mo p
          · rw [if_neg (fun h => h hpo), ← hq, decide_eq_true hpo, if_pos rfl]
          · rw [if_pos hpo, ← hq, decide_eq_false hpo, if_neg (by decide)]
        have HH := Lib.hid (And.intro hcall hR)
        have hk3 : mk = 16 ∨ mk = 24 ∨ mk = 32 := by unfold keyOk at hko; omega
        clear hk hp hcall hRB hko hkl hq hR h5
        rcases hk3 with rfl | rfl | rfl
        all_goals
          cases q
          all_goals
            go_enter Try.func14, Try.ntmps14
            go_wp2_with fail
            refine HH.out.1.mono ?_
            rintro e w1 ⟨rfl, rfl⟩
            go_wp2_with fail
            go_ret
            have e := HH.out.2
            simp at e
            subst e
            exact ⟨rfl, rfl⟩
      · rw [if_pos hko] at hRB
        subst hRB
        have i1 : ¬ (mk : Int) = 16 := by unfold keyOk at hko; omega
        have i2 : ¬ (mk : Int) = 24 := by unfold keyOk at hko; omega
        have i3 : ¬ (mk : Int) = 32 := by unfold keyOk at hko; omega
        have j1 : ((mk : Int) != 16) = true := by simpa using i1
        have j2 : ((mk : Int) != 24) = true := by simpa using i2
        have j3 : ((mk : Int) != 32) = true := by simpa using i3
        clear hk hp hcall hko hkl h5
        go_enter Try.func14, Try.ntmps14
        go_wp2_with fail
        go_ret
        exact ⟨rfl, rfl⟩
end Go.Proofs.Ytiocmebcbhbcmaa
