/-
  Modes: New.
  Modes, the document's answer: Param, May.
-/
import Derived.Test.YtiocmebcbhbcmaaZzMo12
namespace Go.Proofs.Ytiocmebcbhbcmaa
set_option maxRecDepth 100000
open Go.RowKit

def keyOk (k : List UInt8) : Prop := k.length = 16 ∨ k.length = 24 ∨ k.length = 32
instance (k : List UInt8) : Decidable (keyOk k) := by unfold keyOk; infer_instance
def PSof (mode : Nat) (enc : Bool) (k p : List UInt8) : PS := ⟨mode, enc, rks k, (rks k).length / 16, p⟩
/-- What New gives. -/
def NewPost (w : World) (mode : Nat) (enc : Bool) (k p : List UInt8) (e : Ending) (w' : World) : Prop :=
  if ¬ keyOk k then e = .returned (.tuple #[.pointer none, .int .i64 98]) ∧ Old w w'
  else if ¬ parOk mode p then e = .returned (.tuple #[.pointer none, .int .i64 113]) ∧ Old w w'
  else ∃ d, e = .returned (.tuple #[.pointer (some ⟨d, 0, none⟩), .int .i64 0]) ∧ NewRes w (PSof mode enc k p) w' d
theorem new_mode (mode : Int) (enc : Bool) (A C : Option Addr) (m cm n cn : Nat) (w : World) (h : mode < 1 ∨ 5 < mode) :
    Calls Try.prog 16 #[.int .i64 mode, .bool enc, .slice A m cm, .slice C n cn] w fun e w' => e = .returned (.tuple #[.pointer none, .int .i64 112]) ∧ w = w' := by
  by_cases h1 : mode < 1
  · have hd : decide (mode < 1) = true := decide_eq_true h1
    clear h
    go_enter Try.func16, Try.ntmps16
    go_wp2_with fail
    refine bodyPost_ret (results_tmp2 rfl _ _ _) rfl ?_
    exact ⟨rfl, rfl⟩
  · have hd : decide (mode < 1) = false := decide_eq_false h1
    have h5 : mode > 5 := by omega
    have hd5 : decide (mode > 5) = true := decide_eq_true h5
    clear h
    go_enter Try.func16, Try.ntmps16
    go_wp2_with fail
    refine bodyPost_ret (results_tmp2 rfl _ _ _) rfl ?_
    exact ⟨rfl, rfl⟩
theorem Below.turn1 {w w1 w2 : World} {d : Nat} (h : Old w w1) (ht : Turn [d] w1 w2) (hd : w.heap.size ≤ d) : Old w w2 := below_turn h ht (fun t ht => by simp at ht; subst ht; exact hd) h.size
/-- The blocks of a fresh stream. -/
theorem newres_B {w w3 : World} {d c kb R cp mode : Nat} {enc : Bool} {k p : List UInt8} (hmode : mode = 1 ∨ mode = 2 ∨ mode = 3) (hR : (rks k).length = 16 * R) {L : Option Addr} {nl cl : Nat} (h : BkW w3 ⟨d, c, kb, R, cp, mode, enc, rks k⟩ none 0 0 [] L nl cl p)
    (hL : ∀ ad, L = some ad → w.heap.size ≤ ad.block) (hd : w.heap.size ≤ d) (hc : w.heap.size ≤ c) (hk : w.heap.size ≤ kb) (hO : Old w w3) : NewRes w (PSof mode enc k p) w3 d := by
  have hR2 : (PSof mode enc k p).R = R := by unfold PSof; simp only; omega
  refine ⟨[d, c, kb] ++ (L.map Addr.block).toList, .inl ⟨hmode, ⟨d, c, kb, R, cp, mode, enc, rks k⟩, none, 0, 0, L, nl, cl, ⟨rfl, rfl, rfl, rfl, hR2.symm, ?_, ⟨by simp, by simp, by simp⟩, fun ad e => ?_⟩⟩, fun x hx => ?_, hO⟩
  · unfold PS.blk
    rw [PS.nb0, blkN_zero]
    exact h
  · rcases e with e | e
    · cases e
    · rw [e]; simp
  · simp only [List.mem_append, List.mem_cons, List.not_mem_nil, or_false] at hx
    have hcl := h.bkc.cip.lt
    rcases hx with (rfl | rfl | rfl) | hx
    · exact ⟨hd, h.bkc.blk.lt⟩
    · exact ⟨hc, hcl.1⟩
    · exact ⟨hk, hcl.2⟩
    · cases L with
      | none => simp at hx
      | some ad => simp at hx; rw [hx]; exact ⟨hL ad rfl, h.bkc.last.lt ad rfl⟩
theorem vblk_mem {P : Vw} {ad : Addr} (h : P.A = some ad) : ad.block ∈ (P.A.map Addr.block).toList := by rw [h]; simp
theorem vblk_of {P : Vw} {x : Nat} (h : x ∈ (P.A.map Addr.block).toList) : ∃ ad, P.A = some ad ∧ x = ad.block := by
  cases hA : P.A with
  | none => rw [hA] at h; simp at h
  | some ad => rw [hA] at h; simp at h; exact ⟨ad, rfl, h⟩
theorem newres_G {w w3 : World} {s : PS} {x : GX} {M D : Vw} (hm : s.mode = 4 ∨ s.mode = 5) (xm : x.mode = s.mode) (xe : x.enc = s.enc) (xk : x.ks = s.ks) (xr : x.R = s.R) (xw : x.wd = s.wd) (h : GcAt w3 x nilW s.c0 nilW M D nilW)
    (hM : s.mode = 5 → M.l = s.E s.j ∧ D.l = s.data) (hMb : ∀ ad, M.A = some ad → w.heap.size ≤ ad.block) (hDb : ∀ ad, D.A = some ad → w.heap.size ≤ ad.block)
    (hd : w.heap.size ≤ x.d) (hc : w.heap.size ≤ x.c) (hk : w.heap.size ≤ x.K) (hg : w.heap.size ≤ x.gc) (hO : Old w w3) : NewRes w s w3 x.d := by
  have hcn : s.cn [] = ([], [], s.c0) := rfl
  have hG : StrG w3 ([x.d, x.c, x.K, x.gc] ++ (M.A.map Addr.block).toList ++ (D.A.map Addr.block).toList) x.d s [] s.c0 [] [] x nilW nilW M D nilW :=
    ⟨rfl, xm, xe, xk, xr, xw, h, rfl, rfl, rfl, hM, fun _ => rfl, fun _ => rfl, ⟨by simp, by simp, by simp, by simp⟩, fun ad e => by
      rcases e with e | e | e | e | e
      · cases e
      · cases e
      · simp only [List.mem_append]; exact .inl (.inr (vblk_mem e))
      · simp only [List.mem_append]; exact .inr (vblk_mem e)
      · cases e⟩
  refine ⟨[x.d, x.c, x.K, x.gc] ++ (M.A.map Addr.block).toList ++ (D.A.map Addr.block).toList, ?_, fun y hy => ?_, hO⟩
  · rcases hm with hm | hm
    · exact .inr (.inl ⟨hm, x, _, _, _, _, _, hG⟩)
    · cases he : s.enc with
      | true => exact .inr (.inr (.inl ⟨hm, he, x, _, _, _, _, _, hG⟩))
      | false => exact .inr (.inr (.inr ⟨hm, he, x, _, _, _, _, _, hG⟩))
  · simp only [List.mem_append, List.mem_cons, List.not_mem_nil, or_false] at hy
    have hcl : x.c < w3.heap.size ∧ x.K < w3.heap.size := h.cnt.cip.lt
    rcases hy with ((rfl | rfl | rfl | rfl) | hy) | hy
    · exact ⟨hd, h.cnt.blk.lt⟩
    · exact ⟨hc, hcl.1⟩
    · exact ⟨hk, hcl.2⟩
    · exact ⟨hg, h.cnt.ctr.lt⟩
    · obtain ⟨ad, e1, e2⟩ := vblk_of hy
      rw [e2]; exact ⟨hMb ad e1, Rd.lt h.mask ad e1⟩
    · obtain ⟨ad, e1, e2⟩ := vblk_of hy
      rw [e2]; exact ⟨hDb ad e1, Rd.lt h.data ad e1⟩
/-- begin, whatever the mode. -/
theorem begin_any (w : World) (d c kb R cp mode : Nat) (enc : Bool) (k p : List UInt8) (A : Option Addr) (m cm : Nat) (w2 : World) (h : Blk w2 d 59 (st0 mode enc c)) (hcip : Cip w2 0 c (rks k) kb R cp) (hp : Own w2 0 (.slice A m cm) p) (hm : m ≤ 100000) (h1 : 1 ≤ mode) (h5 : mode ≤ 5)
    (hd : w.heap.size ≤ d) (hc : w.heap.size ≤ c) (hk : w.heap.size ≤ kb) (hA : ∀ ad, A = some ad → w.heap.size ≤ ad.block ∧ ad.block ≠ c ∧ ad.block ≠ kb) (hO : Old w w2) :
    Calls Try.prog 39 #[.pointer (some ⟨d, 0, none⟩), .slice A m cm] w2 fun e w' => ∃ b, e = .returned (.bool b) ∧ b = decide (parOk mode p) ∧ Old w w' ∧ (b = true → NewRes w (PSof mode enc k p) w' d) := by
  have hR : (rks k).length = 16 * R := hcip.2.2.2.2.2.1
  have hR2 : (PSof mode enc k p).R = R := by unfold PSof; simp only; omega
  by_cases hb : mode = 1 ∨ mode = 2 ∨ mode = 3
  · refine (begB_any d c kb R cp mode enc (rks k) A m cm p w2 h hcip hp hm hb).mono ?_
    rintro e w' ⟨ht, ⟨rfl, hn⟩ | ⟨rfl, hy, L, nl, cl, hB, hL⟩⟩
    · exact ⟨false, rfl, (decide_eq_false hn).symm, Below.turn1 hO ht hd, fun e => by cases e⟩
    · exact ⟨true, rfl, (decide_eq_true hy).symm, Below.turn1 hO ht hd, fun _ => newres_B hb hR hB (fun ad e => by obtain ⟨a0, e1, e2⟩ := hL ad e; rw [e2]; exact (hA a0 e1).1) hd hc hk (Below.turn1 hO ht hd)⟩
  · by_cases h4 : mode = 4
    · subst h4
      refine (begC_any d c kb R cp enc (rks k) A m cm p w2 h hcip hp hm (fun ad e => (hA ad e).2)).mono ?_
      rintro e w' ⟨ht, ⟨rfl, hn⟩ | ⟨rfl, hy, gc, cc, hG, a0, e1, e2⟩⟩
      · exact ⟨false, rfl, (decide_eq_false hn).symm, Below.turn1 hO ht hd, fun e => by cases e⟩
      · exact ⟨true, rfl, (decide_eq_true hy).symm, Below.turn1 hO ht hd, fun _ => newres_G (x := ⟨d, c, kb, R, cp, rks k, 4, enc, gc, 1, cc, (p.getD 0 0).toNat⟩) (s := PSof 4 enc k p) (.inl rfl) rfl rfl rfl hR2.symm rfl hG (fun e => absurd e (show ¬ (4 = 5) by decide)) (fun ad e => by cases e) (fun ad e => by cases e) hd hc hk (by show w.heap.size ≤ gc; rw [e2]; exact (hA a0 e1).1) (Below.turn1 hO ht hd)⟩
    · obtain rfl : mode = 5 := by omega
      refine (begG_any d c kb R cp enc (rks k) A m cm p w2 h hcip hp hm).mono ?_
      rintro e w' ⟨ht, ⟨rfl, hn⟩ | ⟨rfl, hy, gc, cc, M, D, hG, g2, g3, g4, g5, g6⟩⟩
      · exact ⟨false, rfl, (decide_eq_false hn).symm, Below.turn1 hO ht hd, fun e => by cases e⟩
      · have hE : (PSof 5 enc k p).E = encL (rks k) R := by unfold PS.E; rw [hR2]; rfl
        have hj : (PSof 5 enc k p).j = gcmJ (encL (rks k) R) p := by unfold PS.j; rw [hE]; rfl
        have hc0 : (PSof 5 enc k p).c0 = stepL 32 (gcmJ (encL (rks k) R) p) := by unfold PS.c0; rw [hj]; rfl
        rw [← hc0] at hG
        exact ⟨true, rfl, (decide_eq_true hy).symm, Below.turn1 hO ht hd, fun _ => newres_G (x := ⟨d, c, kb, R, cp, rks k, 5, enc, gc, 0, cc, 32⟩) (s := PSof 5 enc k p) (.inr rfl) rfl rfl rfl hR2.symm rfl hG (fun _ => ⟨by rw [g2, hE, hj], g3⟩) (fun ad e => Nat.le_trans hO.size (g5 ad e)) (fun ad e => by obtain ⟨a0, e1, e2⟩ := g6 ad e; rw [e2]; exact (hA a0 e1).1) hd hc hk (Nat.le_trans hO.size g4) (Below.turn1 hO ht hd)⟩
set_option maxHeartbeats 2000000 in
theorem modesNew_any (mode : Nat) (enc : Bool) (A C : Option Addr) (mk ck m cm : Nat) (k p : List UInt8) (w : World) (hk : Rd w A mk ck k) (hp : Rd w C m cm p) (hm : m ≤ 100000) (h1 : 1 ≤ mode) (h5 : mode ≤ 5) :
    Calls Try.prog 16 #[.int .i64 (mode : Int), .bool enc, .slice A mk ck, .slice C m cm] w (NewPost w mode enc k p) := by
  have hd1 : decide ((mode : Int) < 1) = false := decide_eq_false (by omega)
  have hi1 : ¬ (mode : Int) < 1 := by omega
  have hd5 : decide ((mode : Int) > 5) = false := decide_eq_false (by omega)
  have hi5 : ¬ (mode : Int) > 5 := by omega
  by_cases hko : keyOk k
  · have HH := Lib.hid (And.intro hk (And.intro hp (And.intro hko (And.intro h1 h5))))
    clear hk hp hko h1 h5
    go_enter Try.func16, Try.ntmps16
    go_wp2_with fail
    refine (new_any A mk ck k w HH.out.1 HH.out.2.2.1).mono ?_
    rintro e w1 ⟨c, kb, R, cq, rfl, hC, hB⟩
    have H1 := Lib.hid (And.intro hC hB)
    clear hC hB
    go_upto_region 6 with fail
    have hB2 : Blk (w1.alloc (.cells #[.int .i64 (mode : Int), .bool enc, .pointer (some ⟨c, 0, none⟩), .slice none 0 0, .slice none 0 0, .slice none 0 0, .int .i64 0, .slice none 0 0, .slice none 0 0, .slice none 0 0, .slice none 0 0, .bool false] 59)) w1.heap.size 59 (st0 mode enc c) := Blk.new _ _ _
    have hO2 := (Old.refl w1).alloc (.cells #[.int .i64 (mode : Int), .bool enc, .pointer (some ⟨c, 0, none⟩), .slice none 0 0, .slice none 0 0, .slice none 0 0, .int .i64 0, .slice none 0 0, .slice none 0 0, .slice none 0 0, .slice none 0 0, .bool false] 59)
    obtain ⟨w2, hw2⟩ : ∃ w2, w1.alloc (.cells #[.int .i64 (mode : Int), .bool enc, .pointer (some ⟨c, 0, none⟩), .slice none 0 0, .slice none 0 0, .slice none 0 0, .int .i64 0, .slice none 0 0, .slice none 0 0, .slice none 0 0, .slice none 0 0, .bool false] 59) = w2 := ⟨_, rfl⟩
    rw [hw2] at hB2 hO2 ⊢
    obtain ⟨d, hd⟩ : ∃ d, w1.heap.size = d := ⟨_, rfl⟩
    rw [hd] at hB2 ⊢
    have hC1 := H1.out.1
    have hC0 : Cip w1 0 c (rks k) kb R cq := ⟨hC1.1, Nat.zero_le _, Nat.zero_le _, hC1.2.2.2⟩
    have HD := Lib.hid (And.intro hB2 (And.intro hO2 (And.intro hd (hC0.below hO2))))
    clear hB2 hO2 hd hw2 hC1 hC0
    go_wp2_with fail
    refine (clone_own C m cm p w2 ((HH.out.2.1.below H1.out.2).below HD.out.2.1) (by omega)).mono ?_
    rintro e w3 ⟨A3, n3, c3, rfl, ho3, hB3⟩
    have hn3 : n3 ≤ 100000 := by have := ho3.len; have := HH.out.2.1.1; omega
    have hcl := H1.out.1.lt
    have hcall := begin_any w d c kb R cq mode enc k p A3 n3 c3 w3 (HD.out.1.below hB3) (HD.out.2.2.2.below hB3) (ho3.mono (Nat.zero_le _)) hn3 HH.out.2.2.2.1 HH.out.2.2.2.2 (by rw [← HD.out.2.2.1]; exact H1.out.2.size) H1.out.1.2.1 H1.out.1.2.2.1
      (fun ad e => by have h9 := ho3.addr_ge ad e; have := H1.out.2.size; have := HD.out.2.1.size; exact ⟨by omega, by omega, by omega⟩) ((Old.trans H1.out.2 HD.out.2.1).trans hB3)
    have HC := Lib.hid hcall
    clear hcall ho3 hB3 hcl
    go_wp2_with fail
    refine HC.out.mono ?_
    rintro e w4 ⟨b, rfl, hb, hO4, hres⟩
    cases b with
    | true =>
      have HR := Lib.hid (And.intro hb (hres rfl))
      clear hb hres hO4
      go_wp2_with fail
      refine bodyPost_ret (results_tmp2 rfl _ _ _) rfl ?_
      unfold NewPost
      rw [if_neg (fun h => h HH.out.2.2.1), if_neg (fun h => h (of_decide_eq_true HR.out.1.symm))]
      exact ⟨d, rfl, HR.out.2⟩
    | false =>
      have HR := Lib.hid (And.intro hb hO4)
      clear hb hres hO4
      go_wp2_with fail
      refine bodyPost_ret (results_tmp2 rfl _ _ _) rfl ?_
      unfold NewPost
      rw [if_neg (fun h => h HH.out.2.2.1), if_pos (of_decide_eq_false HR.out.1.symm)]
      exact ⟨rfl, HR.out.2⟩
  · have hk3 : mk ≠ 16 ∧ mk ≠ 24 ∧ mk ≠ 32 := by
      have := hk.1
      unfold keyOk at hko
      omega
    have HH := Lib.hid (And.intro hko hk3)
    clear hk hp hko hk3
    go_enter Try.func16, Try.ntmps16
    go_wp2_with fail
    refine (new_no A mk ck w HH.out.2).mono ?_
    rintro e w1 ⟨rfl, hw⟩
    subst hw
    go_wp2_with fail
    refine bodyPost_ret (results_tmp2 rfl _ _ _) rfl ?_
    unfold NewPost
    rw [if_pos HH.out.1]
    exact ⟨rfl, (Old.refl _).alloc _⟩
end Go.Proofs.Ytiocmebcbhbcmaa
namespace Go.Proofs.Ytiocmebcbhbcmaa
set_option maxRecDepth 100000
open Go.RowKit

def leN (x : UInt8) (n : Int) : Bool := decide ((x.toNat : Int) ≤ n)
theorem leqI_B (t : TypeId) (x : UInt8) (n : Int) : binOp .leq t (B x) (.int .u8 n) = pure (.bool (leN x n)) := by
  rw [show B x = .int .u8 (x.toNat : Int) from rfl]
  exact binOp_leq t .u8 _ _
attribute [local go_sem] leqI_B
def mayF (mode : Int) (k p : List UInt8) : Int := if mode < 1 ∨ 5 < mode then 112 else if ¬ keyOk k then 98 else if ¬ parOk mode.toNat p then 113 else 0
theorem par0 {A : Option Addr} {m c : Nat} {p : List UInt8} {w : World} (hp : Rd w A m c p) (h : 0 < m) : ∃ b off z, A = some ⟨b, off, none⟩ ∧ p.getD 0 0 = z ∧ w.cell? ⟨b, off, none⟩ = some (B z) := by
  obtain ⟨b, off, hA, hat⟩ := hp.addr h
  obtain ⟨z, hz⟩ : ∃ z, p[0]? = some z := ⟨_, List.getElem?_eq_getElem (by have := hp.1; omega)⟩
  have := hat.2 0 z hz
  rw [Nat.add_zero] at this
  exact ⟨b, off, z, hA, by rw [List.getD_eq_getElem?_getD, hz]; rfl, this⟩
set_option maxHeartbeats 1000000 in
theorem rparam_any (mode : Nat) (A : Option Addr) (m c : Nat) (p : List UInt8) (w : World) (hp : Rd w A m c p) (h1 : 1 ≤ mode) (h5 : mode ≤ 5) (hm : m ≤ 100000000) :
    Calls Try.prog 30 #[.int .i64 (mode : Int), .slice A m c] w fun e w' => e = .returned (.bool (decide (parOk mode p))) ∧ w = w' := by
  have hml := hp.1
  have hmode : mode = 1 ∨ mode = 2 ∨ mode = 3 ∨ mode = 4 ∨ mode = 5 := by omega
  have hcase : ∀ (n : Nat) (q : Bool), decide (parOk mode p) = q → q = decide (parOk mode p) := fun _ _ h => h.symm
  rcases hmode with rfl | rfl | rfl | rfl | rfl
  · have hd : decide (parOk 1 p) = ((m : Int) == 0) := by
      have hpo : parOk 1 p ↔ p = [] := by unfold parOk; rw [if_pos rfl]
      by_cases h : m = 0
      · rw [decide_eq_true (hpo.2 (List.length_eq_zero_iff.1 (by omega))), h]; rfl
      · rw [decide_eq_false (fun e => h (by have := hpo.1 e; rw [this] at hml; simpa using hml))]; symm; simp; omega
    rw [hd, show ((1 : Nat) : Int) = 1 from rfl]
    clear hp hml hcase hd
    go_enter Try.func30, Try.ntmps30
    go_wp2_with fail
    go_ret
    exact ⟨rfl, rfl⟩
  · have hd : decide (parOk 2 p) = ((m : Int) == 16) := by
      have hpo : parOk 2 p ↔ p.length = 16 := by unfold parOk; rw [if_neg (by decide), if_neg (by decide), if_neg (by decide)]
      by_cases h : m = 16
      · rw [decide_eq_true (hpo.2 (by omega)), h]; rfl
      · rw [decide_eq_false (fun e => h (by have := hpo.1 e; omega))]; symm; simp; omega
    rw [hd, show ((2 : Nat) : Int) = 2 from rfl]
    clear hp hml hcase hd
    go_enter Try.func30, Try.ntmps30
    go_wp2_with fail
    go_ret
    exact ⟨rfl, rfl⟩
  · have hd : decide (parOk 3 p) = ((m : Int) == 16) := by
      have hpo : parOk 3 p ↔ p.length = 16 := by unfold parOk; rw [if_neg (by decide), if_neg (by decide), if_neg (by decide)]
      by_cases h : m = 16
      · rw [decide_eq_true (hpo.2 (by omega)), h]; rfl
      · rw [decide_eq_false (fun e => h (by have := hpo.1 e; omega))]; symm; simp; omega
    rw [hd, show ((3 : Nat) : Int) = 3 from rfl]
    clear hp hml hcase hd
    go_enter Try.func30, Try.ntmps30
    go_wp2_with fail
    go_ret
    exact ⟨rfl, rfl⟩
  · have hpo : parOk 4 p ↔ p.length = 17 ∧ 1 ≤ (p.getD 0 0).toNat ∧ (p.getD 0 0).toNat ≤ 128 := by unfold parOk; rw [if_neg (by decide), if_pos rfl]
    obtain ⟨RB, hRB⟩ : ∃ b, decide (parOk 4 p) = b := ⟨_, rfl⟩
    rw [hRB, show ((4 : Nat) : Int) = 4 from rfl]
    by_cases h17 : m = 17
    · obtain ⟨b, off, z, rfl, hz, y0⟩ := par0 hp (by omega)
      rw [hz] at hpo
      subst h17
      by_cases g1 : 1 ≤ z.toNat
      · have g1' : geN z 1 = true := decide_eq_true (by omega)
        by_cases g2 : z.toNat ≤ 128
        · have g2' : leN z 128 = true := decide_eq_true (by omega)
          have hb : RB = true := by rw [← hRB]; exact decide_eq_true (hpo.2 ⟨hml.symm, g1, g2⟩)
          have HB := Lib.hid hb
          clear hp hml hcase hpo hRB hb hz g1 g2
          go_enter Try.func30, Try.ntmps30
          go_wp2_with fail
          go_ret
          have e := HB.out
          subst e
          exact ⟨rfl, rfl⟩
        · have g2' : leN z 128 = false := decide_eq_false (by omega)
          have hb : RB = false := by rw [← hRB]; exact decide_eq_false (fun e => g2 (hpo.1 e).2.2)
          have HB := Lib.hid hb
          clear hp hml hcase hpo hRB hb hz g1 g2
          go_enter Try.func30, Try.ntmps30
          go_wp2_with fail
          go_ret
          have e := HB.out
          subst e
          exact ⟨rfl, rfl⟩
      · have g1' : geN z 1 = false := decide_eq_false (by omega)
        have hb : RB = false := by rw [← hRB]; exact decide_eq_false (fun e => g1 (hpo.1 e).2.1)
        have HB := Lib.hid hb
        clear hp hml hcase hpo hRB hb hz g1
        go_enter Try.func30, Try.ntmps30
        go_wp2_with fail
        go_ret
        have e := HB.out
        subst e
        exact ⟨rfl, rfl⟩
    · have hb : RB = false := by rw [← hRB]; exact decide_eq_false (fun e => h17 (by rw [hml]; exact (hpo.1 e).1))
      have hb17 : ((m : Int) == 17) = false := by simp; omega
      have hi17 : ¬ (m : Int) = 17 := by omega
      have HB := Lib.hid hb
      clear hp hml hcase hpo hRB hb h17
      go_enter Try.func30, Try.ntmps30
      go_wp2_with fail
      go_ret
      have e := HB.out
      subst e
      exact ⟨rfl, rfl⟩
  · have hpo : parOk 5 p ↔ 2 ≤ p.length ∧ 1 ≤ (p.getD 0 0).toNat ∧ 1 + (p.getD 0 0).toNat ≤ p.length := by unfold parOk; rw [if_neg (by decide), if_neg (by decide), if_pos rfl]; rfl
    obtain ⟨RB, hRB⟩ : ∃ b, decide (parOk 5 p) = b := ⟨_, rfl⟩
    rw [hRB, show ((5 : Nat) : Int) = 5 from rfl]
    by_cases h2 : 2 ≤ m
    · obtain ⟨b, off, z, rfl, hz, y0⟩ := par0 hp (by omega)
      rw [hz] at hpo
      have i2 : (m : Int) ≥ 2 := by omega
      have d2 : decide ((m : Int) ≥ 2) = true := decide_eq_true i2
      have im : (0 : Int) < m := by omega
      have hcv := conv_Bi z w
      have hw : IntKind.i64.wrap ((m : Int) - 1) = (m : Int) - 1 := IntWalk.i64_in _ (by omega)
      by_cases g1 : 1 ≤ z.toNat
      · have g1' : geN z 1 = true := decide_eq_true (by omega)
        by_cases g2 : 1 + z.toNat ≤ m
        · have hb : RB = true := by rw [← hRB]; exact decide_eq_true (hpo.2 ⟨by omega, g1, by omega⟩)
          obtain ⟨n, hn⟩ : ∃ n, z.toNat = n := ⟨_, rfl⟩
          rw [hn] at hcv
          have g2' : (m : Int) - 1 ≥ (n : Int) := by omega
          have g2d : decide ((m : Int) - 1 ≥ (n : Int)) = true := decide_eq_true g2'
          have HB := Lib.hid hb
          clear hp hml hcase hpo hRB hb hz g1 g2 hn h2
          go_enter Try.func30, Try.ntmps30
          go_wp2_with fail
          go_ret
          have e := HB.out
          subst e
          exact ⟨rfl, rfl⟩
        · have hb : RB = false := by rw [← hRB]; exact decide_eq_false (fun e => g2 (by rw [hml]; exact (hpo.1 e).2.2))
          obtain ⟨n, hn⟩ : ∃ n, z.toNat = n := ⟨_, rfl⟩
          rw [hn] at hcv
          have g2' : ¬ (m : Int) - 1 ≥ (n : Int) := by omega
          have g2d : decide ((m : Int) - 1 ≥ (n : Int)) = false := decide_eq_false g2'
          have HB := Lib.hid hb
          clear hp hml hcase hpo hRB hb hz g1 g2 hn h2
          go_enter Try.func30, Try.ntmps30
          go_wp2_with fail
          go_ret
          have e := HB.out
          subst e
          exact ⟨rfl, rfl⟩
      · have g1' : geN z 1 = false := decide_eq_false (by omega)
        have hb : RB = false := by rw [← hRB]; exact decide_eq_false (fun e => g1 (hpo.1 e).2.1)
        have HB := Lib.hid hb
        clear hp hml hcase hpo hRB hb hz g1 h2 hcv hw
        go_enter Try.func30, Try.ntmps30
        go_wp2_with fail
        go_ret
        have e := HB.out
        subst e
        exact ⟨rfl, rfl⟩
    · have hb : RB = false := by rw [← hRB]; exact decide_eq_false (fun e => h2 (by rw [hml]; exact (hpo.1 e).1))
      have i2 : ¬ (m : Int) ≥ 2 := by omega
      have d2 : decide ((m : Int) ≥ 2) = false := decide_eq_false i2
      have HB := Lib.hid hb
      clear hp hml hcase hpo hRB hb h2
      go_enter Try.func30, Try.ntmps30
      go_wp2_with fail
      go_ret
      have e := HB.out
      subst e
      exact ⟨rfl, rfl⟩
set_option maxHeartbeats 1000000 in
theorem rmay_any (mode : Int) (A C : Option Addr) (mk ck m c : Nat) (k p : List UInt8) (w : World) (hk : Rd w A mk ck k) (hp : Rd w C m c p) (hm : m ≤ 100000000) :
    Calls Try.prog 14 #[.int .i64 mode, .slice A mk ck, .slice C m c] w fun e w' => e = .returned (.int .i64 (mayF mode k p)) ∧ w = w' := by
  obtain ⟨RB, hRB⟩ : ∃ b, mayF mode k p = b := ⟨_, rfl⟩
  rw [hRB]
  unfold mayF at hRB
  by_cases h1 : mode < 1
  · have d1 : decide (mode < 1) = true := decide_eq_true h1
    rw [if_pos (.inl h1)] at hRB
    subst hRB
    clear hk hp
    go_enter Try.func14, Try.ntmps14
    go_wp2_with fail
    go_ret
    exact ⟨rfl, rfl⟩
  · have d1 : decide (mode < 1) = false := decide_eq_false h1
    by_cases h5 : 5 < mode
    · have g5 : mode > 5 := h5
      have d5 : decide (mode > 5) = true := decide_eq_true h5
      rw [if_pos (.inr h5)] at hRB
      subst hRB
      clear hk hp h5
      go_enter Try.func14, Try.ntmps14
      go_wp2_with fail
      go_ret
      exact ⟨rfl, rfl⟩
    · have g5 : ¬ mode > 5 := h5
      have d5 : decide (mode > 5) = false := decide_eq_false h5
      rw [if_neg (by omega)] at hRB
      obtain ⟨mo, rfl⟩ := Int.eq_ofNat_of_zero_le (show 0 ≤ mode by omega)
      rw [Int.toNat_natCast] at hRB
      have hcall := rparam_any mo C m c p w hp (by omega) (by omega) hm
      have hkl := hk.1
      by_cases hko : keyOk k
      · rw [if_neg (fun h => h hko)] at hRB
        obtain ⟨q, hq⟩ : ∃ q, decide (parOk mo p) = q := ⟨_, rfl⟩
        rw [hq] at hcall
        have hR : RB = if q = true then 0 else 113 := by
          rw [← hRB]
          by_cases hpo : parOk mo p
          · rw [if_neg (fun h => h hpo), ← hq, decide_eq_true hpo, if_pos rfl]
          · rw [if_pos hpo, ← hq, decide_eq_false hpo, if_neg (by decide)]
        have HH := Lib.hid (And.intro hcall hR)
        have hk3 : mk = 16 ∨ mk = 24 ∨ mk = 32 := by unfold keyOk at hko; omega
        clear hk hp hcall hRB hko hkl hq hR h5
        rcases hk3 with rfl | rfl | rfl
        all_goals
          cases q
          all_goals
            go_enter Try.func14, Try.ntmps14
            go_wp2_with fail
            refine HH.out.1.mono ?_
            rintro e w1 ⟨rfl, rfl⟩
            go_wp2_with fail
            go_ret
            have e := HH.out.2
            simp at e
            subst e
            exact ⟨rfl, rfl⟩
      · rw [if_pos hko] at hRB
        subst hRB
        have i1 : ¬ (mk : Int) = 16 := by unfold keyOk at hko; omega
        have i2 : ¬ (mk : Int) = 24 := by unfold keyOk at hko; omega
        have i3 : ¬ (mk : Int) = 32 := by unfold keyOk at hko; omega
        have j1 : ((mk : Int) != 16) = true := by simpa using i1
        have j2 : ((mk : Int) != 24) = true := by simpa using i2
        have j3 : ((mk : Int) != 32) = true := by simpa using i3
        clear hk hp hcall hko hkl h5
        go_enter Try.func14, Try.ntmps14
        go_wp2_with fail
        go_ret
        exact ⟨rfl, rfl⟩
end Go.Proofs.Ytiocmebcbhbcmaa
