/-
  Modes: New.
  Modes: bytes taken in: Update.
-/
import Derived.Test.YtiocmebcbhbcmaaZzMo12
namespace Go.Proofs.Ytiocmebcbhbcmaa
set_option maxRecDepth 100000
open Go.RowKit

def keyOk (k : List UInt8) : Prop := k.length = 16 ∨ k.length = 24 ∨ k.length = 32
instance (k : List UInt8) : Decidable (keyOk k) := by unfold keyOk; infer_instance
def PSof (mode : Nat) (enc : Bool) (k p : List UInt8) : PS := ⟨mode, enc, rks k, (rks k).length / 16, p⟩
/-- What New gives. -/
def NewPost (w : World) (mode : Nat) (enc : Bool) (k p : List UInt8) (e : Ending) (w' : World) : Prop :=
  if ¬ keyOk k then e = .returned (.tuple #[.pointer none, .int .i64 98]) ∧ Old w w'
  else if ¬ parOk mode p then e = .returned (.tuple #[.pointer none, .int .i64 113]) ∧ Old w w'
  else ∃ d, e = .returned (.tuple #[.pointer (some ⟨d, 0, none⟩), .int .i64 0]) ∧ NewRes w (PSof mode enc k p) w' d
theorem new_mode (mode : Int) (enc : Bool) (A C : Option Addr) (m cm n cn : Nat) (w : World) (h : mode < 1 ∨ 5 < mode) :
    Calls Try.prog 16 #[.int .i64 mode, .bool enc, .slice A m cm, .slice C n cn] w fun e w' => e = .returned (.tuple #[.pointer none, .int .i64 112]) ∧ w = w' := by
  by_cases h1 : mode < 1
  · have hd : decide (mode < 1) = true := decide_eq_true h1
    clear h
    go_enter Try.func16, Try.ntmps16
    go_wp2_with fail
    refine bodyPost_ret (results_tmp2 rfl _ _ _) rfl ?_
    exact ⟨rfl, rfl⟩
  · have hd : decide (mode < 1) = false := decide_eq_false h1
    have h5 : mode > 5 := by omega
    have hd5 : decide (mode > 5) = true := decide_eq_true h5
    clear h
    go_enter Try.func16, Try.ntmps16
    go_wp2_with fail
    refine bodyPost_ret (results_tmp2 rfl _ _ _) rfl ?_
    exact ⟨rfl, rfl⟩
theorem Below.turn1 {w w1 w2 : World} {d : Nat} (h : Old w w1) (ht : Turn [d] w1 w2) (hd : w.heap.size ≤ d) : Old w w2 := below_turn h ht (fun t ht => by simp at ht; subst ht; exact hd) h.size
/-- The blocks of a fresh stream. -/
theorem newres_B {w w3 : World} {d c kb R cp mode : Nat} {enc : Bool} {k p : List UInt8} (hmode : mode = 1 ∨ mode = 2 ∨ mode = 3) (hR : (rks k).length = 16 * R) {L : Option Addr} {nl cl : Nat} (h : BkW w3 ⟨d, c, kb, R, cp, mode, enc, rks k⟩ none 0 0 [] L nl cl p)
    (hL : ∀ ad, L = some ad → w.heap.size ≤ ad.block) (hd : w.heap.size ≤ d) (hc : w.heap.size ≤ c) (hk : w.heap.size ≤ kb) (hO : Old w w3) : NewRes w (PSof mode enc k p) w3 d := by
  have hR2 : (PSof mode enc k p).R = R := by unfold PSof; simp only; omega
  refine ⟨[d, c, kb] ++ (L.map Addr.block).toList, .inl ⟨hmode, ⟨d, c, kb, R, cp, mode, enc, rks k⟩, none, 0, 0, L, nl, cl, ⟨rfl, rfl, rfl, rfl, hR2.symm, ?_, ⟨by simp, by simp, by simp⟩, fun ad e => ?_⟩⟩, fun x hx => ?_, hO⟩
  · unfold PS.blk
    rw [PS.nb0, blkN_zero]
    exact h
  · rcases e with e | e
    · cases e
    · rw [e]; simp
  · simp only [List.mem_append, List.mem_cons, List.not_mem_nil, or_false] at hx
    have hcl := h.bkc.cip.lt
    rcases hx with (rfl | rfl | rfl) | hx
    · exact ⟨hd, h.bkc.blk.lt⟩
    · exact ⟨hc, hcl.1⟩
    · exact ⟨hk, hcl.2⟩
    · cases L with
      | none => simp at hx
      | some ad => simp at hx; rw [hx]; exact ⟨hL ad rfl, h.bkc.last.lt ad rfl⟩
theorem vblk_mem {P : Vw} {ad : Addr} (h : P.A = some ad) : ad.block ∈ (P.A.map Addr.block).toList := by rw [h]; simp
theorem vblk_of {P : Vw} {x : Nat} (h : x ∈ (P.A.map Addr.block).toList) : ∃ ad, P.A = some ad ∧ x = ad.block := by
  cases hA : P.A with
  | none => rw [hA] at h; simp at h
  | some ad => rw [hA] at h; simp at h; exact ⟨ad, rfl, h⟩
theorem newres_G {w w3 : World} {s : PS} {x : GX} {M D : Vw} (hm : s.mode = 4 ∨ s.mode = 5) (xm : x.mode = s.mode) (xe : x.enc = s.enc) (xk : x.ks = s.ks) (xr : x.R = s.R) (xw : x.wd = s.wd) (h : GcAt w3 x nilW s.c0 nilW M D nilW)
    (hM : s.mode = 5 → M.l = s.E s.j ∧ D.l = s.data) (hMb : ∀ ad, M.A = some ad → w.heap.size ≤ ad.block) (hDb : ∀ ad, D.A = some ad → w.heap.size ≤ ad.block)
    (hd : w.heap.size ≤ x.d) (hc : w.heap.size ≤ x.c) (hk : w.heap.size ≤ x.K) (hg : w.heap.size ≤ x.gc) (hO : Old w w3) : NewRes w s w3 x.d := by
  have hcn : s.cn [] = ([], [], s.c0) := rfl
  have hG : StrG w3 ([x.d, x.c, x.K, x.gc] ++ (M.A.map Addr.block).toList ++ (D.A.map Addr.block).toList) x.d s [] s.c0 [] [] x nilW nilW M D nilW :=
    ⟨rfl, xm, xe, xk, xr, xw, h, rfl, rfl, rfl, hM, fun _ => rfl, fun _ => rfl, ⟨by simp, by simp, by simp, by simp⟩, fun ad e => by
      rcases e with e | e | e | e | e
      · cases e
      · cases e
      · simp only [List.mem_append]; exact .inl (.inr (vblk_mem e))
      · simp only [List.mem_append]; exact .inr (vblk_mem e)
      · cases e⟩
  refine ⟨[x.d, x.c, x.K, x.gc] ++ (M.A.map Addr.block).toList ++ (D.A.map Addr.block).toList, ?_, fun y hy => ?_, hO⟩
  · rcases hm with hm | hm
    · exact .inr (.inl ⟨hm, x, _, _, _, _, _, hG⟩)
    · cases he : s.enc with
      | true => exact .inr (.inr (.inl ⟨hm, he, x, _, _, _, _, _, hG⟩))
      | false => exact .inr (.inr (.inr ⟨hm, he, x, _, _, _, _, _, hG⟩))
  · simp only [List.mem_append, List.mem_cons, List.not_mem_nil, or_false] at hy
    have hcl : x.c < w3.heap.size ∧ x.K < w3.heap.size := h.cnt.cip.lt
    rcases hy with ((rfl | rfl | rfl | rfl) | hy) | hy
    · exact ⟨hd, h.cnt.blk.lt⟩
    · exact ⟨hc, hcl.1⟩
    · exact ⟨hk, hcl.2⟩
    · exact ⟨hg, h.cnt.ctr.lt⟩
    · obtain ⟨ad, e1, e2⟩ := vblk_of hy
      rw [e2]; exact ⟨hMb ad e1, Rd.lt h.mask ad e1⟩
    · obtain ⟨ad, e1, e2⟩ := vblk_of hy
      rw [e2]; exact ⟨hDb ad e1, Rd.lt h.data ad e1⟩
/-- begin, whatever the mode. -/
theorem begin_any (w : World) (d c kb R cp mode : Nat) (enc : Bool) (k p : List UInt8) (A : Option Addr) (m cm : Nat) (w2 : World) (h : Blk w2 d 59 (st0 mode enc c)) (hcip : Cip w2 0 c (rks k) kb R cp) (hp : Own w2 0 (.slice A m cm) p) (hm : m ≤ 2000000) (h1 : 1 ≤ mode) (h5 : mode ≤ 5)
    (hd : w.heap.size ≤ d) (hc : w.heap.size ≤ c) (hk : w.heap.size ≤ kb) (hA : ∀ ad, A = some ad → w.heap.size ≤ ad.block ∧ ad.block ≠ c ∧ ad.block ≠ kb) (hO : Old w w2) :
    Calls Try.prog 39 #[.pointer (some ⟨d, 0, none⟩), .slice A m cm] w2 fun e w' => ∃ b, e = .returned (.bool b) ∧ b = decide (parOk mode p) ∧ Old w w' ∧ (b = true → NewRes w (PSof mode enc k p) w' d) := by
  have hR : (rks k).length = 16 * R := hcip.2.2.2.2.2.1
  have hR2 : (PSof mode enc k p).R = R := by unfold PSof; simp only; omega
  by_cases hb : mode = 1 ∨ mode = 2 ∨ mode = 3
  · refine (begB_any d c kb R cp mode enc (rks k) A m cm p w2 h hcip hp hm hb).mono ?_
    rintro e w' ⟨ht, ⟨rfl, hn⟩ | ⟨rfl, hy, L, nl, cl, hB, hL⟩⟩
    · exact ⟨false, rfl, (decide_eq_false hn).symm, Below.turn1 hO ht hd, fun e => by cases e⟩
    · exact ⟨true, rfl, (decide_eq_true hy).symm, Below.turn1 hO ht hd, fun _ => newres_B hb hR hB (fun ad e => by obtain ⟨a0, e1, e2⟩ := hL ad e; rw [e2]; exact (hA a0 e1).1) hd hc hk (Below.turn1 hO ht hd)⟩
  · by_cases h4 : mode = 4
    · subst h4
      refine (begC_any d c kb R cp enc (rks k) A m cm p w2 h hcip hp hm (fun ad e => (hA ad e).2)).mono ?_
      rintro e w' ⟨ht, ⟨rfl, hn⟩ | ⟨rfl, hy, gc, cc, hG, a0, e1, e2⟩⟩
      · exact ⟨false, rfl, (decide_eq_false hn).symm, Below.turn1 hO ht hd, fun e => by cases e⟩
      · exact ⟨true, rfl, (decide_eq_true hy).symm, Below.turn1 hO ht hd, fun _ => newres_G (x := ⟨d, c, kb, R, cp, rks k, 4, enc, gc, 1, cc, (p.getD 0 0).toNat⟩) (s := PSof 4 enc k p) (.inl rfl) rfl rfl rfl hR2.symm rfl hG (fun e => absurd e (show ¬ (4 = 5) by decide)) (fun ad e => by cases e) (fun ad e => by cases e) hd hc hk (by show w.heap.size ≤ gc; rw [e2]; exact (hA a0 e1).1) (Below.turn1 hO ht hd)⟩
    · obtain rfl : mode = 5 := by omega
      refine (begG_any d c kb R cp enc (rks k) A m cm p w2 h hcip hp hm).mono ?_
      rintro e w' ⟨ht, ⟨rfl, hn⟩ | ⟨rfl, hy, gc, cc, M, D, hG, g2, g3, g4, g5, g6⟩⟩
      · exact ⟨false, rfl, (decide_eq_false hn).symm, Below.turn1 hO ht hd, fun e => by cases e⟩
      · have hE : (PSof 5 enc k p).E = encL (rks k) R := by unfold PS.E; rw [hR2]; rfl
        have hj : (PSof 5 enc k p).j = gcmJ (encL (rks k) R) p := by unfold PS.j; rw [hE]; rfl
        have hc0 : (PSof 5 enc k p).c0 = stepL 32 (gcmJ (encL (rks k) R) p) := by unfold PS.c0; rw [hj]; rfl
        rw [← hc0] at hG
        exact ⟨true, rfl, (decide_eq_true hy).symm, Below.turn1 hO ht hd, fun _ => newres_G (x := ⟨d, c, kb, R, cp, rks k, 5, enc, gc, 0, cc, 32⟩) (s := PSof 5 enc k p) (.inr rfl) rfl rfl rfl hR2.symm rfl hG (fun _ => ⟨by rw [g2, hE, hj], g3⟩) (fun ad e => Nat.le_trans hO.size (g5 ad e)) (fun ad e => by obtain ⟨a0, e1, e2⟩ := g6 ad e; rw [e2]; exact (hA a0 e1).1) hd hc hk (Nat.le_trans hO.size g4) (Below.turn1 hO ht hd)⟩
set_option maxHeartbeats 2000000 in
theorem modesNew_any (mode : Nat) (enc : Bool) (A C : Option Addr) (mk ck m cm : Nat) (k p : List UInt8) (w : World) (hk : Rd w A mk ck k) (hp : Rd w C m cm p) (hm : m ≤ 2000000) (h1 : 1 ≤ mode) (h5 : mode ≤ 5) :
    Calls Try.prog 16 #[.int .i64 (mode : Int), .bool enc, .slice A mk ck, .slice C m cm] w (NewPost w mode enc k p) := by
  have hd1 : decide ((mode : Int) < 1) = false := decide_eq_false (by omega)
  have hi1 : ¬ (mode : Int) < 1 := by omega
  have hd5 : decide ((mode : Int) > 5) = false := decide_eq_false (by omega)
  have hi5 : ¬ (mode : Int) > 5 := by omega
  by_cases hko : keyOk k
  · have HH := Lib.hid (And.intro hk (And.intro hp (And.intro hko (And.intro h1 h5))))
    clear hk hp hko h1 h5
    go_enter Try.func16, Try.ntmps16
    go_wp2_with fail
    refine (new_any A mk ck k w HH.out.1 HH.out.2.2.1).mono ?_
    rintro e w1 ⟨c, kb, R, cq, rfl, hC, hB⟩
    have H1 := Lib.hid (And.intro hC hB)
    clear hC hB
    go_upto_region 6 with fail
    have hB2 : Blk (w1.alloc (.cells #[.int .i64 (mode : Int), .bool enc, .pointer (some ⟨c, 0, none⟩), .slice none 0 0, .slice none 0 0, .slice none 0 0, .int .i64 0, .slice none 0 0, .slice none 0 0, .slice none 0 0, .slice none 0 0, .bool false] 59)) w1.heap.size 59 (st0 mode enc c) := Blk.new _ _ _
    have hO2 := (Old.refl w1).alloc (.cells #[.int .i64 (mode : Int), .bool enc, .pointer (some ⟨c, 0, none⟩), .slice none 0 0, .slice none 0 0, .slice none 0 0, .int .i64 0, .slice none 0 0, .slice none 0 0, .slice none 0 0, .slice none 0 0, .bool false] 59)
    obtain ⟨w2, hw2⟩ : ∃ w2, w1.alloc (.cells #[.int .i64 (mode : Int), .bool enc, .pointer (some ⟨c, 0, none⟩), .slice none 0 0, .slice none 0 0, .slice none 0 0, .int .i64 0, .slice none 0 0, .slice none 0 0, .slice none 0 0, .slice none 0 0, .bool false] 59) = w2 := ⟨_, rfl⟩
    rw [hw2] at hB2 hO2 ⊢
    obtain ⟨d, hd⟩ : ∃ d, w1.heap.size = d := ⟨_, rfl⟩
    rw [hd] at hB2 ⊢
    have hC1 := H1.out.1
    have hC0 : Cip w1 0 c (rks k) kb R cq := ⟨hC1.1, Nat.zero_le _, Nat.zero_le _, hC1.2.2.2⟩
    have HD := Lib.hid (And.intro hB2 (And.intro hO2 (And.intro hd (hC0.below hO2))))
    clear hB2 hO2 hd hw2 hC1 hC0
    go_wp2_with fail
    refine (clone_own C m cm p w2 ((HH.out.2.1.below H1.out.2).below HD.out.2.1) (by omega)).mono ?_
    rintro e w3 ⟨A3, n3, c3, rfl, ho3, hB3⟩
    have hn3 : n3 ≤ 2000000 := by have := ho3.len; have := HH.out.2.1.1; omega
    have hcl := H1.out.1.lt
    have hcall := begin_any w d c kb R cq mode enc k p A3 n3 c3 w3 (HD.out.1.below hB3) (HD.out.2.2.2.below hB3) (ho3.mono (Nat.zero_le _)) hn3 HH.out.2.2.2.1 HH.out.2.2.2.2 (by rw [← HD.out.2.2.1]; exact H1.out.2.size) H1.out.1.2.1 H1.out.1.2.2.1
      (fun ad e => by have h9 := ho3.addr_ge ad e; have := H1.out.2.size; have := HD.out.2.1.size; exact ⟨by omega, by omega, by omega⟩) ((Old.trans H1.out.2 HD.out.2.1).trans hB3)
    have HC := Lib.hid hcall
    clear hcall ho3 hB3 hcl
    go_wp2_with fail
    refine HC.out.mono ?_
    rintro e w4 ⟨b, rfl, hb, hO4, hres⟩
    cases b with
    | true =>
      have HR := Lib.hid (And.intro hb (hres rfl))
      clear hb hres hO4
      go_wp2_with fail
      refine bodyPost_ret (results_tmp2 rfl _ _ _) rfl ?_
      unfold NewPost
      rw [if_neg (fun h => h HH.out.2.2.1), if_neg (fun h => h (of_decide_eq_true HR.out.1.symm))]
      exact ⟨d, rfl, HR.out.2⟩
    | false =>
      have HR := Lib.hid (And.intro hb hO4)
      clear hb hres hO4
      go_wp2_with fail
      refine bodyPost_ret (results_tmp2 rfl _ _ _) rfl ?_
      unfold NewPost
      rw [if_neg (fun h => h HH.out.2.2.1), if_pos (of_decide_eq_false HR.out.1.symm)]
      exact ⟨rfl, HR.out.2⟩
  · have hk3 : mk ≠ 16 ∧ mk ≠ 24 ∧ mk ≠ 32 := by
      have := hk.1
      unfold keyOk at hko
      omega
    have HH := Lib.hid (And.intro hko hk3)
    clear hk hp hko hk3
    go_enter Try.func16, Try.ntmps16
    go_wp2_with fail
    refine (new_no A mk ck w HH.out.2).mono ?_
    rintro e w1 ⟨rfl, hw⟩
    subst hw
    go_wp2_with fail
    refine bodyPost_ret (results_tmp2 rfl _ _ _) rfl ?_
    unfold NewPost
    rw [if_pos HH.out.1]
    exact ⟨rfl, (Old.refl _).alloc _⟩
end Go.Proofs.Ytiocmebcbhbcmaa
namespace Go.Proofs.Ytiocmebcbhbcmaa
set_option maxRecDepth 100000
open Go.RowKit

/-- What came out when all came in. -/
def PS.front (s : PS) (all : List UInt8) : List UInt8 :=
  if s.mode = 4 then (s.cn all).1 else if s.mode = 5 then (if s.enc then (s.cn all).1 else []) else (s.blk all).1
theorem PS.nb_add (s : PS) (a b : Nat) : s.nb (a + b) = s.nb a + ((a - 16 * s.nb a + b) - s.keep) / 16 := by
  unfold PS.nb
  have : s.keep ≤ 1 := by unfold PS.keep; split <;> omega
  generalize s.keep = k at *
  omega
theorem PS.nb_le (s : PS) (a : Nat) : 16 * s.nb a ≤ a := by unfold PS.nb; omega
theorem PS.blk_add (s : PS) (all b : List UInt8) : s.blk (all ++ b) = ((s.blk all).1 ++ (blkN s.mode s.enc s.E s.D (((all.drop (16 * s.nb all.length) ++ b).length - s.keep) / 16) (s.blk all).2 (all.drop (16 * s.nb all.length) ++ b)).1,
    (blkN s.mode s.enc s.E s.D (((all.drop (16 * s.nb all.length) ++ b).length - s.keep) / 16) (s.blk all).2 (all.drop (16 * s.nb all.length) ++ b)).2) ∧
    (all.drop (16 * s.nb all.length) ++ b).drop (16 * (((all.drop (16 * s.nb all.length) ++ b).length - s.keep) / 16)) = (all ++ b).drop (16 * s.nb (all ++ b).length) := by
  have h1 := s.nb_le all.length
  have h2 : (all.drop (16 * s.nb all.length) ++ b).length = all.length - 16 * s.nb all.length + b.length := by simp
  have h3 : s.nb (all ++ b).length = s.nb all.length + ((all.drop (16 * s.nb all.length) ++ b).length - s.keep) / 16 := by rw [h2, List.length_append, s.nb_add]
  have h4 : (all ++ b).drop (16 * s.nb all.length) = all.drop (16 * s.nb all.length) ++ b := List.drop_append_of_le_length h1
  constructor
  · unfold PS.blk
    rw [h3, blkN_add, h4, blkN_front _ _ _ _ _ _ _ _ h1]
  · rw [h3, Nat.mul_add, ← h4, List.drop_drop]
theorem drop_front (X Y : List UInt8) : (X ++ Y).drop X.length = Y := by simp
/-- What Update leaves. -/
def UpdRes (w : World) (G : List Nat) (d : Nat) (s : PS) (all b : List UInt8) (e : Ending) (w' : World) : Prop :=
  ∃ (A : Option Addr) (n c : Nat) (G' : List Nat), e = .returned (.slice A n c) ∧ Own w' w.heap.size (.slice A n c) ((s.front (all ++ b)).drop (s.front all).length) ∧ StrAt w' G' d s (all ++ b) ∧ Turn G w w' ∧ (∀ x ∈ G', x ∈ G ∨ w.heap.size ≤ x) ∧ (∀ x ∈ G', x < w'.heap.size) ∧ (∀ g, (Value.slice A n c).ownBlock = some g → g ∉ G') ∧ n ≤ all.length + b.length
theorem Rd.turnX {w w' : World} {A : Option Addr} {m c : Nat} {l : List UInt8} {S : List Nat} (h : Rd w A m c l) (ht : Turn S w w') (hS : ∀ g ∈ S, NoB w g ∨ ∀ ad, A = some ad → ad.block ≠ g) : Rd w' A m c l := by
  rcases Nat.eq_zero_or_pos m with rfl | hm
  · obtain rfl : l = [] := List.length_eq_zero_iff.1 h.1.symm
    obtain ⟨h1, h2, h3, h4⟩ := h
    refine ⟨h1, h2, h3, ?_⟩
    rcases h4 with h4 | ⟨b, off, hA, hat⟩
    · exact .inl h4
    · exact .inr ⟨b, off, hA, Nat.lt_of_lt_of_le hat.1 ht.size, fun k x hk => by simp at hk⟩
  · refine h.turn ht (fun ad e hm2 => ?_)
    rcases hS _ hm2 with h1 | h1
    · exact h1.ne h hm ad e rfl
    · exact h1 ad e rfl
/-- A row grown: it lies where it lay, or anew. -/
theorem BkW.grown {w w1 : World} {x : BX} {W L A : Option Addr} {m cw nl cl n c : Nat} {wait last l : List UInt8} (h : BkW w x W m cw wait L nl cl last) (hG : GrewO 0 w w1 W m cw A n c l) : BkW (w1.setCell ⟨x.d, 4, none⟩ (.slice A n c)) x A n c l L nl cl last := by
  have hd : x.d < w.heap.size := h.bkc.blk.lt
  have hcl := h.bkc.cip.lt
  have hA : ∀ ad, A = some ad → W = some ad ∧ c = cw ∨ ad.block = w.heap.size := fun ad e => by
    rcases hG.at_ with ⟨h1, h2⟩ | h1
    · exact .inl ⟨by rw [← h1]; exact e, h2⟩
    · rw [e] at h1; exact .inr (by simpa using h1)
  have hsep : ∀ b, A = some b → b.block ≠ x.c ∧ b.block ≠ x.K ∧ b.block ≠ x.d := fun b e => by
    rcases hA b e with ⟨h1, _⟩ | h1
    · exact h.sep b h1
    · rw [h1]; exact ⟨by omega, by omega, by omega⟩
  refine ⟨(h.grow hG).put4 A n c, hG.own.turn turn_put (fun ad e => by simp; exact (hsep ad e).2.2), fun a b e1 e2 e3 => ?_, hsep⟩
  rcases hA b e2 with ⟨h1, h2⟩ | h1
  · rw [h2]; exact h.ahead a b e1 h1 e3
  · have := h.bkc.last.lt a e1
    omega
set_option maxHeartbeats 2000000 in
theorem updB_any (G : List Nat) (d : Nat) (s : PS) (all : List UInt8) (x : BX) (W : Option Addr) (m cw : Nat) (L : Option Addr) (nl cl : Nat) (A : Option Addr) (n c : Nat) (b : List UInt8) (w : World) (h : StrB w G d s all x W m cw L nl cl) (hm : s.mode = 1 ∨ s.mode = 2 ∨ s.mode = 3) (hr : Rd w A n c b) (hGl : ∀ x ∈ G, x < w.heap.size) (hn : all.length + n ≤ 100000) :
    Calls Try.prog 17 #[.pointer (some ⟨d, 0, none⟩), .slice A n c] w (UpdRes w G d s all b) := by
  obtain ⟨xd, xm, xe, xk, xr, bk, g1, g2⟩ := h
  have hE : x.E = s.E := by unfold BX.E PS.E; rw [xk, xr]
  have hD : x.D = s.D := by unfold BX.D PS.D; rw [xk, xr]
  subst xd
  have y0 := bk.bkc.c0
  have y11 : w.cell? ⟨x.d, 11, none⟩ = some (.bool false) := bk.bkc.blk.cell 11
  have y4 := bk.bkc.c4
  have a3 : ((x.mode : Int) == 4) = false := by simp; omega
  have a4 : ¬ (x.mode : Int) = 4 := by omega
  have a5 : ((x.mode : Int) == 5) = false := by simp; omega
  have a6 : ¬ (x.mode : Int) = 5 := by omega
  have hbl : n = b.length := hr.1
  have hwl : m = all.length - 16 * s.nb all.length := by rw [bk.wait.rd.1]; simp
  have hadd := s.blk_add all b
  have hfr : ∀ l, s.front l = (s.blk l).1 := fun l => by unfold PS.front; rw [if_neg (by omega), if_neg (by omega)]
  have hkeep : s.keep = if (decide (x.mode = 3) && !x.enc) = true then 1 else 0 := by unfold PS.keep; rw [xm, xe]; cases s.enc <;> by_cases e : s.mode = 3 <;> simp [e]
  have HXK := xk
  have HXR := xr
  have HH := Lib.hid (And.intro bk (And.intro hr (And.intro hbl (And.intro hwl (And.intro hadd (And.intro hfr (And.intro hE (And.intro hD (And.intro xm (And.intro xe (And.intro g1 (And.intro g2 (And.intro hkeep hm)))))))))))))
  clear bk hr hbl hwl hadd hfr hE hD xm xe xk xr g1 g2 hkeep hm
  go_enter Try.func17, Try.ntmps17
  go_upto_region 14 with (at_builtin; go_must (refine wp_app_O (.tmp 56) (.tmp 57) 0 W m cw _ HH.out.1.wait (Nat.zero_le _) A n c b HH.out.2.1 (by have h1 := HH.out.2.2.1; have h2 := HH.out.2.2.2.1; simp only [List.length_drop]; omega) rfl rfl rfl rfl ?_); intro A1 n1 c1 w1 hG; have hbk1 := HH.out.1.grown hG; have hbk0 := HH.out.1.grow hG; have y4b := hbk0.c4; have f4b := hbk0.frozen 4; have H1 := Lib.hid (And.intro hbk1 (And.intro hG hbk0)); clear hbk1 hG hbk0)
  obtain ⟨w2, hw2⟩ : ∃ w2, w1.setCell ⟨x.d, 4, none⟩ (.slice A1 n1 c1) = w2 := ⟨_, rfl⟩
  have hbk := H1.out.1
  have hT2 : Turn (x.d :: (W.map Addr.block).toList) w w2 := by rw [← hw2]; exact (H1.out.2.1.turn.more (fun y hy => List.mem_cons_of_mem _ hy)).trans turn_put (fun y hy => .inl (by simp at hy; simp [hy]))
  rw [hw2] at hbk ⊢
  have hpad := padded_any x A1 n1 c1 L nl cl _ w2 hbk.bkc
  have hn1 : n1 ≤ 100000 := by have := H1.out.2.1.len; have h1 := HH.out.2.2.1; have h2 := HH.out.2.2.2.1; simp only [List.length_append, List.length_drop] at this; omega
  have hW1 : ∀ ad, A1 = some ad → (∃ a0, W = some a0 ∧ ad.block = a0.block) ∨ w.heap.size ≤ ad.block := fun ad e => by
    rcases H1.out.2.1.at_ with ⟨h1, h2⟩ | h1
    · exact .inl ⟨ad, by rw [← h1]; exact e, rfl⟩
    · rw [e] at h1; right; simp at h1; omega
  have hfin : ∀ (e : Ending) (w' : World), (∃ A' n' c' W' m' cw' L' nl' cl', e = .returned (.slice A' n' c') ∧ Own w' w2.heap.size (.slice A' n' c') (blkN x.mode x.enc x.E x.D ((n1 - s.keep) / 16) (s.blk all).2 (all.drop (16 * s.nb all.length) ++ b)).1 ∧
      BkW w' x W' m' cw' ((all.drop (16 * s.nb all.length) ++ b).drop (16 * ((n1 - s.keep) / 16))) L' nl' cl' (blkN x.mode x.enc x.E x.D ((n1 - s.keep) / 16) (s.blk all).2 (all.drop (16 * s.nb all.length) ++ b)).2 ∧ W'.map Addr.block = A1.map Addr.block ∧ From w2.heap.size L' L A1 ∧ Turn [x.d] w2 w' ∧ (∀ ad, L' = some ad → (Value.slice A' n' c').ownBlock ≠ some ad.block) ∧ n' ≤ n1) → UpdRes w G x.d s all b e w' := by
    rintro e w' ⟨A', n', c', W', m', cw', L', nl', cl', rfl, p1, p2, p3, p4, p5, p6, p7⟩
    have hlen := H1.out.2.1.len
    obtain ⟨q1, q2⟩ := HH.out.2.2.2.2.1
    rw [hlen, HH.out.2.2.2.2.2.2.1, HH.out.2.2.2.2.2.2.2.1, HH.out.2.2.2.2.2.2.2.2.1, HH.out.2.2.2.2.2.2.2.2.2.1] at p1 p2
    rw [q2] at p2
    have e1 := congrArg Prod.fst q1
    have e2 := congrArg Prod.snd q1
    simp only at e1 e2
    rw [← e2] at p2
    have g1 := HH.out.2.2.2.2.2.2.2.2.2.2.1
    have g2 := HH.out.2.2.2.2.2.2.2.2.2.2.2.1
    have hWb : ∀ ad, W' = some ad → ad.block ∈ G ∨ w.heap.size ≤ ad.block := fun ad e => by
      obtain ⟨a0, h1, h2⟩ := map_block p3 ad e
      rcases hW1 a0 h1 with ⟨a1, h3, h4⟩ | h3
      · exact .inl (by rw [h2, h4]; exact g2 a1 (.inl h3))
      · exact .inr (by rw [h2]; exact h3)
    have hLb : ∀ ad, L' = some ad → ad.block ∈ G ∨ w.heap.size ≤ ad.block := fun ad e => by
      rcases p4 ad e with ⟨a0, h1, h2⟩ | ⟨a0, h1, h2⟩ | h1
      · exact .inl (by rw [h2]; exact g2 a0 (.inr h1))
      · rcases hW1 a0 h1 with ⟨a1, h3, h4⟩ | h3
        · exact .inl (by rw [h2, h4]; exact g2 a1 (.inl h3))
        · exact .inr (by rw [h2]; exact h3)
      · exact .inr (Nat.le_trans hT2.size h1)
    refine ⟨A', n', c', G ++ (W'.map Addr.block).toList ++ (L'.map Addr.block).toList, rfl, ?_, .inl ⟨HH.out.2.2.2.2.2.2.2.2.2.2.2.2.2, x, W', m', cw', L', nl', cl', ⟨rfl, HH.out.2.2.2.2.2.2.2.2.1, HH.out.2.2.2.2.2.2.2.2.2.1, HXK, HXR, p2, ⟨by simp [g1.1], by simp [g1.2.1], by simp [g1.2.2]⟩, fun ad e => ?_⟩⟩, ?_, fun y hy => ?_, fun y hy => ?_, fun g hg hm => ?_, ?_⟩
    · rw [HH.out.2.2.2.2.2.1, HH.out.2.2.2.2.2.1, e1, drop_front]
      exact p1.mono hT2.size
    · rcases e with e | e <;> rw [e] <;> simp
    · refine (hT2.trans p5 (fun y hy => .inl (by simp at hy; simp [hy]))).more (fun y hy => ?_)
      simp only [List.mem_cons] at hy
      rcases hy with rfl | hy
      · exact g1.1
      · cases W with
        | none => simp at hy
        | some ad => simp at hy; rw [hy]; exact g2 ad (.inl rfl)
    · simp only [List.mem_append] at hy
      rcases hy with (hy | hy) | hy
      · exact .inl hy
      · cases W' with
        | none => simp at hy
        | some ad => simp at hy; rw [hy]; exact hWb ad rfl
      · cases L' with
        | none => simp at hy
        | some ad => simp at hy; rw [hy]; exact hLb ad rfl
    · simp only [List.mem_append] at hy
      rcases hy with (hy | hy) | hy
      · have := hGl y hy; have := hT2.size; have := p5.size; omega
      · cases W' with
        | none => simp at hy
        | some ad => simp at hy; rw [hy]; exact p2.wait.rd.lt ad rfl
      · cases L' with
        | none => simp at hy
        | some ad => simp at hy; rw [hy]; exact p2.bkc.last.lt ad rfl
    · simp only [List.mem_append] at hm
      have hge := (p1.lt hg).1
      rcases hm with (hm | hm) | hm
      · have := hGl g hm; have := hT2.size; omega
      · cases hW : W' with
        | none => rw [hW] at hm; simp at hm
        | some ad =>
          rw [hW] at hm; simp at hm
          obtain ⟨a0, h1, h2⟩ := map_block p3 ad hW
          have := H1.out.1.wait.rd.lt a0 h1
          rw [hw2] at this
          omega
      · cases hL : L' with
        | none => rw [hL] at hm; simp at hm
        | some ad =>
          rw [hL] at hm; simp at hm
          exact p6 ad hL (by rw [hg, hm])
    · have h1 := HH.out.2.2.1
      have h2 := HH.out.2.2.2.1
      simp only [List.length_append, List.length_drop] at hlen
      omega
  have HF := Lib.hid hfin
  have HB := Lib.hid (And.intro hbk hpad)
  clear hbk hT2 hpad hW1 hfin hw2 hGl
  go_wp2_with fail
  refine HB.out.2.mono ?_
  rintro e w3 ⟨rfl, rfl⟩
  cases hq : (decide (x.mode = 3) && !x.enc) with
  | true =>
    have hcall := blocks_any x 1 A1 n1 c1 _ L nl cl _ w2 HB.out.1 (by omega) hn1
    have hk1 : s.keep = 1 := by rw [HH.out.2.2.2.2.2.2.2.2.2.2.2.2.1, hq]; rfl
    have HC := Lib.hid (And.intro hcall hk1)
    clear hcall hk1 hq
    go_wp2_with fail
    refine HC.out.1.mono ?_
    intro e w4 hpost
    rw [← HC.out.2] at hpost
    have hres := HF.out e w4 hpost
    obtain ⟨A5, n5, c5, G5, rfl, r1, r2, r3, r4⟩ := hres
    have HR := Lib.hid (And.intro r1 (And.intro r2 (And.intro r3 r4)))
    clear hpost r1 r2 r3 r4
    go_wp2_with fail
    go_ret
    exact ⟨A5, n5, c5, G5, rfl, HR.out.1, HR.out.2.1, HR.out.2.2.1, HR.out.2.2.2⟩
  | false =>
    have hcall := blocks_any x 0 A1 n1 c1 _ L nl cl _ w2 HB.out.1 (by omega) hn1
    have hk1 : s.keep = 0 := by rw [HH.out.2.2.2.2.2.2.2.2.2.2.2.2.1, hq]; rfl
    have HC := Lib.hid (And.intro hcall hk1)
    clear hcall hk1 hq
    go_wp2_with fail
    refine HC.out.1.mono ?_
    intro e w4 hpost
    rw [← HC.out.2] at hpost
    have hres := HF.out e w4 hpost
    obtain ⟨A5, n5, c5, G5, rfl, r1, r2, r3, r4⟩ := hres
    have HR := Lib.hid (And.intro r1 (And.intro r2 (And.intro r3 r4)))
    clear hpost r1 r2 r3 r4
    go_wp2_with fail
    go_ret
    exact ⟨A5, n5, c5, G5, rfl, HR.out.1, HR.out.2.1, HR.out.2.2.1, HR.out.2.2.2⟩
end Go.Proofs.Ytiocmebcbhbcmaa
