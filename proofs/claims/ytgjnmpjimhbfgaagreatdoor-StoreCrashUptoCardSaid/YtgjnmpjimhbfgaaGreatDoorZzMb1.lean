/-
  Modes: a stream's end: end, Final.
-/
import Derived.Test.YtgjnmpjimhbfgaaGreatDoorZzMo16
import Derived.Lib.SlBytesConst
namespace Go.Proofs.YtgjnmpjimhbfgaaGreatDoor
set_option maxRecDepth 100000
open Go.RowKit
theorem StmS.c0_len (s : StmS) (h : parOk s.mode s.p) (hm : s.mode = 4 ∨ s.mode = 5) : s.c0.length = 16 := by
 unfold parOk at h
 rw [if_neg (by omega)] at h
 rcases hm with hm | hm
 ·rw [if_pos hm] at h
  unfold StmS.c0
  rw [if_pos hm, List.length_drop]
  omega
 ·rw [if_neg (by omega), if_pos hm] at h
  obtain ⟨h1, h2, h3⟩ := h
  unfold StmS.c0 StmS.j gcmJ
  rw [if_neg (by omega), stepL_len]
  split
  ·rename_i h12
   rw [List.length_append, List.length_take, List.length_drop]
   simp
   omega
  ·unfold gh; simp [wr16, bytes64]
set_option maxHeartbeats 1000000 in
theorem end_any (G : List Nat) (d : Nat) (s : StmS) (all : List UInt8) (w : World) (h : StrAt w G d s all) (hc0 : s.mode = 4 ∨ s.mode = 5 → s.c0.length = 16) (hd : s.data.length ≤ 100000) (hn : all.length ≤ 100000) :
  Calls Tryz.prog 98 #[.pointer (some ⟨d, 0, none⟩)] w (EndRes w G d (s.fin all)) := by
 rcases h with ⟨hm, x, W, m, cw, L, nl, cl, h⟩ | ⟨hm, x, W, P, M, D, O, h⟩ | ⟨hm, he, x, W, P, M, D, O, h⟩ | ⟨hm, he, x, W, P, M, D, O, h⟩
 ·obtain ⟨xd, xm, xe, xk, xr, bk, g1, g2⟩ := h
  subst xd
  have hE : x.E = s.E := by unfold BX.E StmS.E; rw [xk, xr]
  have hD : x.D = s.D := by unfold BX.D StmS.D; rw [xk, xr]
  have hwl : m = all.length - 16 * s.nb all.length := by rw [bk.wait.rd.1]; simp
  have hf : s.fin all = endB x.mode x.enc x.E x.D (s.blk all).2 (all.drop (16 * s.nb all.length)) := by unfold StmS.fin; rw [if_neg (by omega), if_neg (by omega), xm, xe, hE, hD]
  rw [hf]
  refine (endB_any x W m cw _ L nl cl _ w bk (by omega) (fun h3 he => ?_) (by omega)).mono ?_
  ·have hk : s.keep = 0 := by unfold StmS.keep; rw [if_neg]; rw [← xe, he]; simp
   unfold StmS.nb at hwl
   rw [hk] at hwl
   omega
  ·rintro e w' ⟨A, n, c, rfl, h1, ⟨W1, m1, cw1, L1, nl1, cl1, last1, h2⟩, h3, h4⟩
   refine ⟨A, n, c, rfl, h1, ⟨_, h2.blk, rfl, rfl⟩, h3.more (fun y hy => ?_), by omega⟩
   simp only [List.mem_cons] at hy
   rcases hy with rfl | hy
   ·exact g1.1
   ·cases W with
    | none => simp at hy
    | some ad => simp at hy; rw [hy]; exact g2 ad (.inl rfl)
 ·have hf : s.fin all = ([], 0) := by unfold StmS.fin; rw [if_pos hm]
  rw [hf]
  obtain ⟨xd, xm, xe, xk, xr, xw, gc, _⟩ := h
  subst xd
  have y0 := gc.cells.cell 0
  simp only [stG, List.getElem?_toArray, List.getElem?_cons_zero] at y0
  rw [xm, hm, show ((4 : Nat) : Int) = 4 from rfl] at y0
  have HH := Lib.hid gc
  clear gc hf hm
  go_enter Tryz.func98, Tryz.ntmps98
  go_wp2_with fail
  refine bodyPost_ret (results_tmp2 rfl _ _ _) rfl ?_
  exact ⟨none, 0, 0, rfl, Rd.nil _, ⟨_, HH.out.cells, rfl, rfl⟩, Turn.refl _ _, by omega⟩
 ·have hf : s.fin all = (tagL s.E s.data (s.cn all).1 (s.E s.j), 0) := by unfold StmS.fin; rw [if_neg (by omega), if_pos hm, if_pos he]
  rw [hf]
  have hE := h.E
  have hlen : (s.cn all).1.length ≤ 100000 := by
   have := (cnt1_len s.E s.wd (fun l hl e => by
    have h1 : (s.E l).length = 16 := enc_ne s.ks s.R l hl (by rw [← h.xk, ← h.xr]; exact h.gc.cnt.cip.2.2.2.2.2.1)
    rw [e] at h1
    cases h1) all [] s.c0 (hc0 (.inr hm))).1
   unfold StmS.cn
   omega
  obtain ⟨xd, xm, xe, xk, xr, xw, gc, wl, pl, ol, md, wn, on, g1, g2⟩ := h
  subst xd
  have y0 := gc.cells.cell 0
  have y1 := gc.cells.cell 1
  have y10 : w.cell? ⟨x.d, 10, none⟩ = some (.slice O.A O.n O.c) := gc.cells.cell 10
  simp only [stG, List.getElem?_toArray, List.getElem?_cons_zero, List.getElem?_cons_succ] at y0 y1
  rw [xm, hm, show ((5 : Nat) : Int) = 5 from rfl] at y0
  rw [xe, he] at y1
  have hOr : Rd w O.A O.n O.c (s.cn all).1 := by rw [← ol]; exact gc.out.rd
  have hDn : D.n ≤ 100000 := by have := (show Rd w D.A D.n D.c D.l from gc.data).1; rw [(md hm).2] at this; omega
  have hcall := gc.tag x W P M D O _ w (by rw [xm]; exact hm) hDn O.A O.n O.c _ hOr (by have := hOr.1; omega)
  rw [hE, (md hm).1, (md hm).2] at hcall
  have HH := Lib.hid (And.intro gc hcall)
  clear gc hcall hf hm md hOr hDn hlen
  go_enter Tryz.func98, Tryz.ntmps98
  go_wp2_with fail
  refine HH.out.2.mono ?_
  rintro e w1 ⟨A', c', rfl, ho, hB⟩
  have HR := Lib.hid (And.intro ho hB)
  clear ho hB
  go_wp2_with fail
  refine bodyPost_ret (results_tmp2 rfl _ _ _) rfl ?_
  exact ⟨A', 16, c', rfl, HR.out.1.rd, ⟨_, (HH.out.1.below HR.out.2).cells, rfl, rfl⟩, Turn.of_below G HR.out.2, by omega⟩
 ·have hf : s.fin all = s.open_ all := by unfold StmS.fin; rw [if_neg (by omega), if_pos hm, if_neg (by rw [he]; decide)]
  rw [hf]
  have hcall := opened_any G d s all x W P M D O w h hm he hd hn
  obtain ⟨xd, xm, xe, xk, xr, xw, gc, wl, pl, ol, md, wn, on, g1, g2⟩ := h
  subst xd
  have y0 := gc.cells.cell 0
  have y1 := gc.cells.cell 1
  simp only [stG, List.getElem?_toArray, List.getElem?_cons_zero, List.getElem?_cons_succ] at y0 y1
  rw [xm, hm, show ((5 : Nat) : Int) = 5 from rfl] at y0
  rw [xe, he] at y1
  have HH := Lib.hid hcall
  clear gc hcall hf hm md
  go_enter Tryz.func98, Tryz.ntmps98
  go_wp2_with fail
  refine HH.out.mono ?_
  rintro e w1 ⟨A', n', c', rfl, h1, h2, h3⟩
  have HR := Lib.hid (And.intro h1 (And.intro h2 h3))
  clear h1 h2 h3
  go_wp2_with fail
  refine bodyPost_ret (results_tmp2 rfl _ _ _) rfl ?_
  exact ⟨A', n', c', rfl, HR.out.1, HR.out.2.1, HR.out.2.2⟩
theorem StrAt.mem {w : World} {G : List Nat} {d : Nat} {s : StmS} {all : List UInt8} (h : StrAt w G d s all) : d ∈ G ∧ w.cell? ⟨d, 11, none⟩ = some (.bool false) := by
 rcases h with ⟨hm, x, W, m, cw, L, nl, cl, h⟩ | ⟨hm, x, W, P, M, D, O, h⟩ | ⟨hm, he, x, W, P, M, D, O, h⟩ | ⟨hm, he, x, W, P, M, D, O, h⟩
 ·exact ⟨h.g1.1, by have := h.bk.bkc.blk.cell 11; rw [h.xd] at this; exact this⟩
 ·exact ⟨h.g1.1, by have := h.gc.cells.cell 11; rw [h.xd] at this; exact this⟩
 ·exact ⟨h.g1.1, by have := h.gc.cells.cell 11; rw [h.xd] at this; exact this⟩
 ·exact ⟨h.g1.1, by have := h.gc.cells.cell 11; rw [h.xd] at this; exact this⟩
set_option maxHeartbeats 1000000 in
theorem final_any (G : List Nat) (d : Nat) (s : StmS) (all : List UInt8) (w : World) (h : StrAt w G d s all) (hc0 : s.mode = 4 ∨ s.mode = 5 → s.c0.length = 16) (hd : s.data.length ≤ 100000) (hn : all.length ≤ 100000) :
  Calls Tryz.prog 75 #[.pointer (some ⟨d, 0, none⟩)] w (FinRes w G d (s.fin all)) := by
 have hcall := end_any G d s all w h hc0 hd hn
 obtain ⟨hg, y11⟩ := h.mem
 have HH := Lib.hid (And.intro hcall hg)
 clear hcall hg h
 go_enter Tryz.func75, Tryz.ntmps75
 go_wp2_with fail
 refine HH.out.1.mono ?_
 rintro e w1 ⟨A, n, c, rfl, h1, ⟨cs, h2, h3, h4⟩, h5, h6⟩
 obtain ⟨u4, hu4⟩ : ∃ u, cs[4]? = some u := ⟨_, Array.getElem?_eq_getElem (by omega)⟩
 obtain ⟨u11, hu11⟩ : ∃ u, cs[11]? = some u := ⟨_, Array.getElem?_eq_getElem (by omega)⟩
 have z4 := h2.cell 4
 have z11 := h2.cell 11
 rw [hu4] at z4
 rw [hu11] at z11
 have f4 := h2.frozen 4
 have f11 := h2.frozen 11
 have hb := (h2.set_ 11 (.bool true)).set_ 4 (.slice none 0 0)
 have hT : Turn [d] w1 ((w1.setCell ⟨d, 11, none⟩ (.bool true)).setCell ⟨d, 4, none⟩ (.slice none 0 0)) := Turn.trans turn_put turn_put (fun y hy => .inl hy)
 have hN : ∀ g ∈ [d], NoB w1 g := fun g hg => by simp at hg; subst hg; exact NoB.of h2 h4
 have HR := Lib.hid (And.intro (h1.turnB hT hN) (And.intro hb (And.intro h3 (And.intro h4 (h5.trans hT (fun y hy => .inl (by simp at hy; subst hy; exact HH.out.2)))))))
 clear h1 h2 h3 h4 h5 hb hT hN hu4 hu11
 go_wp2_with fail
 refine bodyPost_ret (results_tmp2 rfl _ _ _) rfl ?_
 refine ⟨A, n, c, rfl, HR.out.1, ⟨_, HR.out.2.1, ?_, ?_, all_set (all_set HR.out.2.2.2.1 rfl) rfl⟩, HR.out.2.2.2.2, h6⟩
 ·rw [Array.getElem?_setIfInBounds_ne (by decide), Array.getElem?_setIfInBounds_self_of_lt (by rw [HR.out.2.2.1]; decide)]
 ·rw [Array.getElem?_setIfInBounds_self_of_lt (by rw [Array.size_setIfInBounds, HR.out.2.2.1]; decide)]
def allF (mode : Int) (enc : Bool) (k p b : List UInt8) : List UInt8 × Int :=
 if mode < 1 ∨ 5 < mode then ([], 112) else if ¬ keyOk k then ([], 98) else if ¬ parOk mode.toNat p then ([], 113)
 else if ((PSof mode.toNat enc k p).fin b).2 = 0 then ((PSof mode.toNat enc k p).front b ++ ((PSof mode.toNat enc k p).fin b).1, 0) else ([], ((PSof mode.toNat enc k p).fin b).2)
def AllRes (w : World) (r : List UInt8 × Int) (e : Ending) (w' : World) : Prop := ∃ A n c, e = .returned (.tuple #[.slice A n c, .int .i64 r.2]) ∧ Own w' w.heap.size (.slice A n c) r.1 ∧ Old w w'
theorem StmS.front_nil (s : StmS) : s.front [] = [] := by
 unfold StmS.front StmS.blk
 rw [StmS.nb0]
 split
 ·rfl
 ·split
  ·split <;> rfl
  ·rfl
theorem Old.turnG {w w1 w2 : World} {G : List Nat} (h : Old w w1) (ht : Turn G w1 w2) (hG : ∀ x ∈ G, w.heap.size ≤ x) : Old w w2 := below_turn h ht hG h.size
set_option maxHeartbeats 2000000 in
theorem modesAll_any (mode : Int) (enc : Bool) (A C B : Option Addr) (mk ck m cm n cn : Nat) (k p b : List UInt8) (w : World) (hk : Rd w A mk ck k) (hp : Rd w C m cm p) (hb : Rd w B n cn b) (hm : m ≤ 100000) (hn : n ≤ 100000) :
  Calls Tryz.prog 44 #[.int .i64 mode, .bool enc, .slice A mk ck, .slice C m cm, .slice B n cn] w (AllRes w (allF mode enc k p b)) := by
 obtain ⟨RES, hRES⟩ : ∃ r, allF mode enc k p b = r := ⟨_, rfl⟩
 rw [hRES]
 unfold allF at hRES
 by_cases hmode : mode < 1 ∨ 5 < mode
 ·rw [if_pos hmode] at hRES
  have hcall := new_mode mode enc A C mk ck m cm w hmode
  have HH := Lib.hid (And.intro hcall hRES)
  clear hcall hRES hmode hk hp hb
  go_enter Tryz.func44, Tryz.ntmps44
  go_wp2_with fail
  refine HH.out.1.mono ?_
  rintro e w1 ⟨rfl, rfl⟩
  go_wp2_with fail
  refine bodyPost_ret (results_tmp2 rfl _ _ _) rfl ?_
  rw [← HH.out.2]
  exact ⟨none, 0, 0, rfl, Own.nil _ _, Old.refl _⟩
 ·rw [if_neg hmode] at hRES
  obtain ⟨mo, rfl⟩ := Int.eq_ofNat_of_zero_le (show 0 ≤ mode by omega)
  rw [Int.toNat_natCast] at hRES
  have hcall := modesNew_any mo enc A C mk ck m cm k p w hk hp (by omega) (by omega) (by omega)
  by_cases hko : keyOk k
  ·rw [if_neg (fun h => h hko)] at hRES
   by_cases hpo : parOk mo p
   ·rw [if_neg (fun h => h hpo)] at hRES
    have hpost : ∀ e w', NewPost w mo enc k p e w' → ∃ d, e = .returned (.tuple #[.pointer (some ⟨d, 0, none⟩), .int .i64 0]) ∧ NewRes w (PSof mo enc k p) w' d := fun e w' h => by
     unfold NewPost at h
     rwa [if_neg (fun h => h hko), if_neg (fun h => h hpo)] at h
    obtain ⟨s, hs⟩ : ∃ s, PSof mo enc k p = s := ⟨_, rfl⟩
    rw [hs] at hRES hpost
    have hc0 : s.mode = 4 ∨ s.mode = 5 → s.c0.length = 16 := s.c0_len (by rw [← hs]; exact hpo)
    have hsp : s.p = p := by rw [← hs]; rfl
    have hdl : s.data.length ≤ 100000 := by
     unfold StmS.data
     rw [List.length_drop, hsp]
     have := hp.1
     omega
    have hnb := hb.1
    have HH := Lib.hid (And.intro (hcall.mono hpost) (And.intro hRES (And.intro hc0 (And.intro hdl (And.intro hb hnb)))))
    clear hcall hpost hRES hc0 hsp hdl hb hnb hk hp hko hpo hmode hs
    go_enter Tryz.func44, Tryz.ntmps44
    go_wp2_with fail
    refine HH.out.1.mono ?_
    rintro e w1 ⟨d, rfl, G, hS, hG, hO⟩
    have H1 := Lib.hid (And.intro hS (And.intro hG hO))
    clear hS hG hO
    go_wp2_with fail
    refine (update_any G d s [] B n cn b w1 H1.out.1 HH.out.2.2.1 (HH.out.2.2.2.2.1.below H1.out.2.2) (fun ad e hm => by have h1 := (H1.out.2.1 _ hm).1; have h2 := HH.out.2.2.2.2.1.lt ad e; omega) (fun x hx => (H1.out.2.1 x hx).2) (by simp; omega)).mono ?_
    rintro e w2 ⟨A2, n2, c2, G2, rfl, u1, u2, u3, u4, u5, u6, u7⟩
    rw [List.nil_append, s.front_nil, List.length_nil, List.drop_zero] at u1
    rw [List.nil_append] at u2
    have hO2 : Old w w2 := H1.out.2.2.turnG u3 (fun x hx => (H1.out.2.1 x hx).1)
    have hG2 : ∀ x ∈ G2, w.heap.size ≤ x := fun x hx => by
     rcases u4 x hx with h | h
     ·exact (H1.out.2.1 x h).1
     ·exact Nat.le_trans H1.out.2.2.size h
    have H2 := Lib.hid (And.intro u1 (And.intro u2 (And.intro hO2 (And.intro hG2 (And.intro u6 (And.intro u7 u3.size))))))
    clear u1 u2 u3 u4 u5 u6 u7 hO2 hG2
    go_wp2_with fail
    refine (final_any G2 d s b w2 H2.out.2.1 HH.out.2.2.1 HH.out.2.2.2.1 (by have := HH.out.2.2.2.2.2; omega)).mono ?_
    rintro e w3 ⟨A3, n3, c3, rfl, v1, v2, v3, v4⟩
    obtain ⟨rv, hrv⟩ : ∃ rv, (s.fin b).2 = rv := ⟨_, rfl⟩
    have hR := HH.out.2.1
    rw [hrv] at hR ⊢
    have H3 := Lib.hid (And.intro v1 (And.intro (H2.out.2.2.1.turnG v3 H2.out.2.2.2.1) (And.intro v4 (H2.out.1.turn v3 (fun g hg => H2.out.2.2.2.2.1 g hg)))))
    have hs21 : w.heap.size ≤ w1.heap.size := H1.out.2.2.size
    have hs31 : w1.heap.size ≤ w3.heap.size := Nat.le_trans H2.out.2.2.2.2.2.2 v3.size
    clear v1 v2 v3 v4
    by_cases hz : rv = 0
    ·subst hz
     rw [if_pos rfl] at hR
     have HR := Lib.hid hR
     clear hR hrv
     go_wp2_with (at_builtin; refine wp_app2 (.tmp 38) (.tmp 39) w1.heap.size (.slice A2 n2 c2) _ H3.out.2.2.2 hs31 A3 n3 c3 _ H3.out.1 (by have h1 := H2.out.1.len; have h2 := H3.out.1.1; have h3 := H2.out.2.2.2.2.2.1; have h4 := H3.out.2.2.1; have h5 := HH.out.2.2.2.2.2; simp only [List.length_nil] at h3; omega) rfl rfl rfl rfl ?_; intro A5 n5 c5 w5 hn5 hG5; have H5 := Lib.hid hG5; clear hG5)
     refine bodyPost_ret (results_tmp2 rfl _ _ _) rfl ?_
     rw [← HR.out]
     exact ⟨A5, n5, c5, rfl, H5.out.own.mono hs21, H3.out.2.1.trans_below (H5.out.below.mono hs21)⟩
    ·have hzb : (rv != 0) = true := by simp; exact hz
     rw [if_neg hz] at hR
     have HR := Lib.hid hR
     clear hR hrv
     go_wp2_with fail
     refine bodyPost_ret (results_tmp2 rfl _ _ _) rfl ?_
     rw [← HR.out]
     exact ⟨none, 0, 0, rfl, Own.nil _ _, H3.out.2.1⟩
   ·rw [if_pos hpo] at hRES
    have hpost : ∀ e w', NewPost w mo enc k p e w' → e = .returned (.tuple #[.pointer none, .int .i64 113]) ∧ Old w w' := fun e w' h => by
     unfold NewPost at h
     rwa [if_neg (fun h => h hko), if_pos hpo] at h
    have HH := Lib.hid (And.intro (hcall.mono hpost) hRES)
    clear hcall hpost hRES hb hk hp hko hpo hmode
    go_enter Tryz.func44, Tryz.ntmps44
    go_wp2_with fail
    refine HH.out.1.mono ?_
    rintro e w1 ⟨rfl, hO⟩
    have HO := Lib.hid hO
    clear hO
    go_wp2_with fail
    refine bodyPost_ret (results_tmp2 rfl _ _ _) rfl ?_
    rw [← HH.out.2]
    exact ⟨none, 0, 0, rfl, Own.nil _ _, HO.out⟩
  ·rw [if_pos hko] at hRES
   have hpost : ∀ e w', NewPost w mo enc k p e w' → e = .returned (.tuple #[.pointer none, .int .i64 98]) ∧ Old w w' := fun e w' h => by
    unfold NewPost at h
    rwa [if_pos hko] at h
   have HH := Lib.hid (And.intro (hcall.mono hpost) hRES)
   clear hcall hpost hRES hb hk hp hko hmode
   go_enter Tryz.func44, Tryz.ntmps44
   go_wp2_with fail
   refine HH.out.1.mono ?_
   rintro e w1 ⟨rfl, hO⟩
   have HO := Lib.hid hO
   clear hO
   go_wp2_with fail
   refine bodyPost_ret (results_tmp2 rfl _ _ _) rfl ?_
   rw [← HH.out.2]
   exact ⟨none, 0, 0, rfl, Own.nil _ _, HO.out⟩
theorem getD_some {b : List UInt8} {i : Nat} {x : UInt8} (h : b[i]? = some x) : b.getD i 0 = x := by rw [List.getD_eq_getElem?_getD, h]; rfl
def cmOdd (b : List UInt8) : Prop := b.length = 0 ∨ 0 < b.length % 16
instance (b : List UInt8) : Decidable (cmOdd b) := by unfold cmOdd; infer_instance
def wrapLen (m : Nat) : Prop := 16 ≤ m ∧ m ≤ 65528 ∧ m % 8 = 0
instance (m : Nat) : Decidable (wrapLen m) := by unfold wrapLen; infer_instance
def RvRes (w : World) (r : List UInt8 × Int) (e : Ending) (w' : World) : Prop := ∃ A n c, e = .returned (.tuple #[.slice A n c, .int .i64 r.2]) ∧ Rd w' A n c r.1 ∧ Old w w'
theorem RvRes.nil (w w' : World) (rv : Int) (h : Old w w') : RvRes w ([], rv) (.returned (.tuple #[.slice none 0 0, .int .i64 rv])) w' := ⟨none, 0, 0, rfl, Rd.nil _, h⟩
def unwrapLen (m : Nat) : Prop := 24 ≤ m ∧ m ≤ 65536 ∧ m % 8 = 0
instance (m : Nat) : Decidable (unwrapLen m) := by unfold unwrapLen; infer_instance
theorem StrG.turn {w w' : World} {G S : List Nat} {d : Nat} {s : StmS} {wl ctr pl ol : List UInt8} {x : GX} {W P M D O : Vw} (h : StrG w G d s wl ctr pl ol x W P M D O) (ht : Turn S w w') (hn : ∀ x ∈ G, x ∉ S) : StrG w' G d s wl ctr pl ol x W P M D O := by
 have hd : x.d ∉ S := hn _ (by rw [h.xd]; exact h.g1.1)
 refine ⟨h.xd, h.xm, h.xe, h.xk, h.xr, h.xw, ⟨⟨h.gc.cnt.ok, h.gc.cnt.blk.turn ht hd, h.gc.cnt.cip.turn ht (hn _ h.g1.2.1) (hn _ h.g1.2.2.1), h.gc.cnt.ctr.turn ht (hn _ h.g1.2.2.2), h.gc.cnt.pad.turn ht (fun ad e => hn _ (h.g2 ad (.inr (.inl e)))), h.gc.cnt.ne⟩, h.gc.wait.turn ht (fun ad e => hn _ (h.g2 ad (.inl e))),
  Rd.turn h.gc.mask ht (fun ad e => hn _ (h.g2 ad (.inr (.inr (.inl e))))), h.gc.m16, Rd.turn h.gc.data ht (fun ad e => hn _ (h.g2 ad (.inr (.inr (.inr (.inl e)))))), h.gc.out.turn ht (fun g hg => ?_), h.gc.sg, h.gc.sw, h.gc.aw, h.gc.ao⟩, h.wl, h.pl, h.ol, h.md, h.wn, h.on, h.g1, h.g2⟩
 cases hA : O.A with
 | none => rw [Vw.v, hA] at hg; simp [Value.ownBlock] at hg
 | some ad => rw [Vw.v, hA] at hg; simp [Value.ownBlock] at hg; subst hg; exact hn _ (h.g2 ad (.inr (.inr (.inr (.inr hA)))))
theorem StrAt.turn {w w' : World} {G S : List Nat} {d : Nat} {s : StmS} {all : List UInt8} (h : StrAt w G d s all) (ht : Turn S w w') (hS : ∀ x ∈ S, x ∉ G) : StrAt w' G d s all := by
 have hn : ∀ x ∈ G, x ∉ S := fun x hx hm => hS x hm hx
 rcases h with ⟨hm, x, W, m, cw, L, nl, cl, h⟩ | ⟨hm, x, W, P, M, D, O, h⟩ | ⟨hm, he, x, W, P, M, D, O, h⟩ | ⟨hm, he, x, W, P, M, D, O, h⟩
 ·refine .inl ⟨hm, x, W, m, cw, L, nl, cl, ⟨h.xd, h.xm, h.xe, h.xk, h.xr, ⟨⟨h.bk.bkc.blk.turn ht (hn _ (by rw [h.xd]; exact h.g1.1)), h.bk.bkc.cip.turn ht (hn _ h.g1.2.1) (hn _ h.g1.2.2), h.bk.bkc.last.turn ht (fun ad e => hn _ (h.g2 ad (.inr e))), h.bk.bkc.l16⟩, h.bk.wait.turn ht (fun ad e => hn _ (h.g2 ad (.inl e))), h.bk.ahead, h.bk.sep⟩, h.g1, h.g2⟩⟩
 ·exact .inr (.inl ⟨hm, x, W, P, M, D, O, h.turn ht hn⟩)
 ·exact .inr (.inr (.inl ⟨hm, he, x, W, P, M, D, O, h.turn ht hn⟩))
 ·exact .inr (.inr (.inr ⟨hm, he, x, W, P, M, D, O, h.turn ht hn⟩))
theorem StrAt.below {w w' : World} {G : List Nat} {d : Nat} {s : StmS} {all : List UInt8} (h : StrAt w G d s all) (hb : Old w w') : StrAt w' G d s all := h.turn (Turn.of_below [] hb) (fun x hx => by cases hx)
def leN (x : UInt8) (n : Int) : Bool := decide ((x.toNat : Int) ≤ n)
theorem leqI_B (t : TypeId) (x : UInt8) (n : Int) : binOp .leq t (B x) (.int .u8 n) = pure (.bool (leN x n)) := by
 rw [show B x = .int .u8 (x.toNat : Int) from rfl]
 exact binOp_leq t .u8 _ _
attribute [local go_sem] leqI_B
def mayF (mode : Int) (k p : List UInt8) : Int := if mode < 1 ∨ 5 < mode then 112 else if ¬ keyOk k then 98 else if ¬ parOk mode.toNat p then 113 else 0
end Go.Proofs.YtgjnmpjimhbfgaaGreatDoor
namespace Go.Proofs.YtgjnmpjimhbfgaaGreatDoor
set_option maxRecDepth 100000
open Go.RowKit
theorem cnt1_twice (E : List UInt8 → List UInt8) (wd : Nat) (hE : ∀ l : List UInt8, l.length = 16 → E l ≠ []) : ∀ (a pad ctr : List UInt8), ctr.length = 16 → (cnt1 E wd (cnt1 E wd a pad ctr).1 pad ctr).1 = a
 | [], pad, ctr, hc => rfl
 | x :: a, y :: pad, ctr, hc => by
  have ih := cnt1_twice E wd hE a pad ctr hc
  simp only [cnt1]
  rw [ih, UInt8.xor_assoc, UInt8.xor_self, UInt8.xor_zero]
 | x :: a, [], ctr, hc => by
  cases h : E ctr with
  | nil => exact absurd h (hE ctr hc)
  | cons y p =>
   have ih := cnt1_twice E wd hE a p (stepL wd ctr) (by rw [stepL_len]; exact hc)
   simp only [cnt1, h]
   rw [ih, UInt8.xor_assoc, UInt8.xor_self, UInt8.xor_zero]
theorem blkF_back (mode : Nat) (E D : List UInt8 → List UInt8) (hE : ∀ l, l.length = 16 → (E l).length = 16) (hDE : ∀ l, l.length = 16 → D (E l) = l) (iv b : List UInt8) (hi : mode ≠ 1 → iv.length = 16) (hb : b.length = 16) :
  (blkF mode true E D iv b).1.length = 16 ∧ (mode ≠ 1 → (blkF mode true E D iv b).2.length = 16) ∧ blkF mode false E D iv (blkF mode true E D iv b).1 = (b, (blkF mode true E D iv b).2) := by
 unfold blkF
 by_cases hm : mode = 1
 ·simp only [if_pos hm, if_true]
  refine ⟨hE b hb, fun h => absurd hm h, ?_⟩
  simp only [Bool.false_eq_true, if_false]
  rw [hDE b hb]
 ·have hx : (xorL b iv).length = 16 := xorL_lenLe _ _ 16 hb (by rw [hi hm]; exact Nat.le_refl _)
  simp only [if_neg hm, if_true]
  refine ⟨hE _ hx, fun _ => hE _ hx, ?_⟩
  simp only [Bool.false_eq_true, if_false]
  rw [hDE _ hx, xorL_back _ _ (by rw [hb, hi hm])]
theorem blkN_back (mode : Nat) (E D : List UInt8 → List UInt8) (hE : ∀ l, l.length = 16 → (E l).length = 16) (hDE : ∀ l, l.length = 16 → D (E l) = l) : ∀ (q : Nat) (iv l : List UInt8), (mode ≠ 1 → iv.length = 16) → 16 * q ≤ l.length →
  (blkN mode true E D q iv l).1.length = 16 * q ∧ (mode ≠ 1 → (blkN mode true E D q iv l).2.length = 16) ∧ blkN mode false E D q iv (blkN mode true E D q iv l).1 = (l.take (16 * q), (blkN mode true E D q iv l).2)
 | 0, iv, l, hi, _ => ⟨rfl, hi, by simp [blkN]⟩
 | q + 1, iv, l, hi, hl => by
  have hb : (l.take 16).length = 16 := by rw [List.length_take]; omega
  obtain ⟨h1, h2, h3⟩ := blkF_back mode E D hE hDE iv (l.take 16) hi hb
  obtain ⟨k1, k2, k3⟩ := blkN_back mode E D hE hDE q (blkF mode true E D iv (l.take 16)).2 (l.drop 16) h2 (by rw [List.length_drop]; omega)
  simp only [blkN]
  refine ⟨by rw [List.length_append, h1, k1]; omega, k2, ?_⟩
  rw [List.take_append_of_le_length (by omega), List.take_of_length_le (by omega), List.drop_append, List.drop_eq_nil_of_le (by omega), List.nil_append, h1, Nat.sub_self, List.drop_zero, h3]
  simp only
  rw [k3]
  simp only
  rw [show 16 * (q + 1) = 16 + 16 * q by omega, List.take_add]
theorem strip_pad (r : List UInt8) (h : r.length < 16) : stripF (r ++ List.replicate (16 - r.length) (UInt8.ofNat (16 - r.length))) = (r, 0) := by
 obtain ⟨n, hn⟩ : ∃ n, 16 - r.length = n := ⟨_, rfl⟩
 have h1 : 1 ≤ n ∧ n ≤ 16 := by omega
 have hz : (UInt8.ofNat n).toNat = n := by rw [UInt8.toNat_ofNat']; exact Nat.mod_eq_of_lt (by omega)
 have hg : (r ++ List.replicate n (UInt8.ofNat n)).getD 15 0 = UInt8.ofNat n := by
  rw [List.getD_eq_getElem?_getD, List.getElem?_append_right (by omega), List.getElem?_replicate_of_lt (by omega)]
  rfl
 rw [hn]
 unfold stripF
 rw [hg, hz, show 16 - n = r.length by omega, List.drop_left', if_pos ⟨h1.1, h1.2, rfl⟩, List.take_left']
 ·rfl
 ·rfl
theorem tagL_len (E : List UInt8 → List UInt8) (data out mask : List UInt8) (hm : mask.length = 16) : (tagL E data out mask).length = 16 := by
 unfold tagL
 exact xorL_lenLe _ _ 16 (by unfold gh; simp [wr16, bytes64]) (by rw [hm]; exact Nat.le_refl _)
theorem StmS.j_len (s : StmS) (h : parOk s.mode s.p) (hm : s.mode = 5) : s.j.length = 16 := by
 have h1 := s.c0_len h (.inr hm)
 unfold StmS.c0 at h1
 rw [if_neg (by omega), stepL_len] at h1
 exact h1
theorem all_back (mode : Int) (k p b : List UInt8) (hb : mode = 1 ∨ mode = 2 → b.length % 16 = 0) : ((allF mode true k p b).2 ≠ 0 → mayF mode k p = (allF mode true k p b).2) ∧ ((allF mode true k p b).2 = 0 → allF mode false k p (allF mode true k p b).1 = (b, 0)) ∧ (allF mode true k p b).1.length ≤ b.length + 32 := by
 unfold allF mayF
 by_cases hmode : mode < 1 ∨ 5 < mode
 ·rw [if_pos hmode, if_pos hmode]
  exact ⟨fun _ => rfl, fun h => (by cases h), by simp⟩
 rw [if_neg hmode, if_neg hmode]
 by_cases hk : keyOk k
 case neg =>
  rw [if_pos hk, if_pos hk]
  exact ⟨fun _ => rfl, fun h => (by cases h), by simp⟩
 have hk' : ¬ ¬ keyOk k := fun h => h hk
 rw [if_neg hk', if_neg hk']
 by_cases hp : parOk mode.toNat p
 case neg =>
  rw [if_pos hp, if_pos hp]
  exact ⟨fun _ => rfl, fun h => (by cases h), by simp⟩
 have hp' : ¬ ¬ parOk mode.toNat p := fun h => h hp
 rw [if_neg hp', if_neg hp']
 obtain ⟨M, hM⟩ : ∃ M, mode.toNat = M := ⟨_, rfl⟩
 have hmi : mode = (M : Int) := by omega
 have hM5 : 1 ≤ M ∧ M ≤ 5 := by omega
 rw [hM] at hp
 have hp2 : ¬ ¬ parOk M p := fun h => h hp
 rw [hM, if_neg hmode, if_neg hk', if_neg hp2]
 have hks : (rks k).length = 16 * ((rks k).length / 16) := by have := rks_len k hk; omega
 have hR0 : 0 < (rks k).length / 16 := by have := rks_len k hk; omega
 obtain ⟨S, hS⟩ : ∃ S, PSof M true k p = S := ⟨_, rfl⟩
 obtain ⟨T, hT⟩ : ∃ T, PSof M false k p = T := ⟨_, rfl⟩
 have hE : ∀ l : List UInt8, l.length = 16 → (S.E l).length = 16 := fun l hl => by rw [← hS]; exact enc_ne _ _ l hl hks
 have hDE : ∀ l : List UInt8, l.length = 16 → S.D (S.E l) = l := fun l hl => by rw [← hS]; exact dec_of_enc _ _ l hks hR0 hl
 have hTE : T.E = S.E := by rw [← hS, ← hT]; rfl
 have hTD : T.D = S.D := by rw [← hS, ← hT]; rfl
 have sm : S.mode = M := by rw [← hS]; rfl
 have tm : T.mode = M := by rw [← hT]; rfl
 have se : S.enc = true := by rw [← hS]; rfl
 have te : T.enc = false := by rw [← hT]; rfl
 have sp : S.p = p := by rw [← hS]; rfl
 have tp : T.p = p := by rw [← hT]; rfl
 have hcn : ∀ l, T.cn l = S.cn l := fun l => by rw [← hS, ← hT]; rfl
 have hj : T.j = S.j := by rw [← hS, ← hT]; rfl
 have hda : T.data = S.data := by rw [← hS, ← hT]; rfl
 have hEn : ∀ l : List UInt8, l.length = 16 → S.E l ≠ [] := fun l hl h => by have := hE l hl; rw [h] at this; cases this
 rw [hS, hT]
 by_cases h4 : M = 4
 ·have hc0 := S.c0_len (by rw [sm, sp]; exact hp) (by rw [sm]; exact .inl h4)
  have f1 : S.fin b = ([], 0) := by unfold StmS.fin; rw [sm, if_pos h4]
  have f2 : T.fin ((S.cn b).1) = ([], 0) := by unfold StmS.fin; rw [tm, if_pos h4]
  have g1 : S.front b = (S.cn b).1 := by unfold StmS.front; rw [sm, if_pos h4]
  have g2 : T.front (S.cn b).1 = b := by
   unfold StmS.front
   rw [tm, if_pos h4, hcn]
   exact cnt1_twice S.E S.wd hEn b [] S.c0 hc0
  rw [f1, g1, if_pos rfl]
  refine ⟨fun h => absurd rfl h, fun _ => ?_, ?_⟩
  rotate_left
  ·have h1 := cnt1_le S.E S.wd b [] S.c0
   have h2 : (S.cn b).1.length ≤ b.length := h1
   simp only [List.append_nil]
   omega
  simp only [List.append_nil]
  rw [f2, g2, if_pos rfl, List.append_nil]
 by_cases h5 : M = 5
 ·have hpo : parOk S.mode S.p := by rw [sm, sp]; exact hp
  have hc0 := S.c0_len hpo (by rw [sm]; exact .inr h5)
  have hjl := S.j_len hpo (by rw [sm]; exact h5)
  have htl : (tagL S.E S.data (S.cn b).1 (S.E S.j)).length = 16 := tagL_len _ _ _ _ (hE _ hjl)
  obtain ⟨tg, htg⟩ : ∃ t, tagL S.E S.data (S.cn b).1 (S.E S.j) = t := ⟨_, rfl⟩
  have f1 : S.fin b = (tg, 0) := by unfold StmS.fin; rw [sm, if_neg (by omega), if_pos h5, se, if_pos rfl, htg]
  have g1 : S.front b = (S.cn b).1 := by unfold StmS.front; rw [sm, if_neg (by omega), if_pos h5, se, if_pos rfl]
  have g2 : T.front ((S.cn b).1 ++ tg) = [] := by unfold StmS.front; rw [tm, if_neg (by omega), if_pos h5, te, if_neg (by decide)]
  have hln : ((S.cn b).1 ++ tg).length - 16 = (S.cn b).1.length := by rw [List.length_append, ← htg, htl]; omega
  have f2 : T.fin ((S.cn b).1 ++ tg) = (b, 0) := by
   unfold StmS.fin
   rw [tm, if_neg (by omega), if_pos h5, te, if_neg (by decide)]
   unfold StmS.open_
   rw [if_neg (by rw [List.length_append, ← htg, htl]; omega), hln, List.take_left', List.drop_left', hTE, hj, hda, if_pos htg, hcn]
   ·exact congrArg (·, (0 : Int)) (cnt1_twice S.E S.wd hEn b [] S.c0 hc0)
   ·rfl
   ·rfl
  rw [f1, g1, if_pos rfl]
  refine ⟨fun h => absurd rfl h, fun _ => ?_, ?_⟩
  rotate_left
  ·have h1 := cnt1_le S.E S.wd b [] S.c0
   have h2 : (S.cn b).1.length ≤ b.length := h1
   have h3 : tg.length = 16 := by rw [← htg]; exact htl
   simp only [List.length_append]
   omega
  simp only
  rw [f2, g2, if_pos rfl, List.nil_append]
 have hiv : M ≠ 1 → p.length = 16 := fun h1 => by
  unfold parOk at hp
  rw [if_neg h1, if_neg h4, if_neg h5] at hp
  exact hp
 have sk : S.keep = 0 := by unfold StmS.keep; rw [if_neg (by rw [se]; simp)]
 obtain ⟨q, hq⟩ : ∃ q, b.length / 16 = q := ⟨_, rfl⟩
 have snb : S.nb b.length = q := by unfold StmS.nb; rw [sk]; exact hq
 have g1 : S.front b = (blkN M true S.E S.D q p b).1 := by unfold StmS.front StmS.blk; rw [sm, if_neg h4, if_neg h5, snb, se, sp]
 obtain ⟨k1, k2, k3⟩ := blkN_back M S.E S.D hE hDE q p b hiv (by omega)
 by_cases h3 : M = 3
 ·obtain ⟨r, hr⟩ : ∃ r, b.drop (16 * q) = r := ⟨_, rfl⟩
  have hrl : r.length < 16 := by rw [← hr, List.length_drop]; omega
  obtain ⟨x, hx⟩ : ∃ x, r ++ List.replicate (16 - r.length) (UInt8.ofNat (16 - r.length)) = x := ⟨_, rfl⟩
  have hxl : x.length = 16 := by rw [← hx, List.length_append, List.length_replicate]; omega
  obtain ⟨j1, j2, j3⟩ := blkF_back M S.E S.D hE hDE (blkN M true S.E S.D q p b).2 x k2 hxl
  obtain ⟨o, ho⟩ : ∃ o, (blkF M true S.E S.D (blkN M true S.E S.D q p b).2 x).1 = o := ⟨_, rfl⟩
  have f1 : S.fin b = (o, 0) := by
   unfold StmS.fin endB StmS.blk
   rw [sm, if_neg h4, if_neg h5, if_pos h3, se, if_pos rfl, snb, hr, hx, sp, ho]
  rw [f1, g1, if_pos rfl]
  refine ⟨fun h => absurd rfl h, fun _ => ?_, ?_⟩
  rotate_left
  ·have h3 : o.length = 16 := by rw [← ho]; exact j1
   simp only [List.length_append]
   omega
  simp only
  obtain ⟨F, hF⟩ : ∃ F, (blkN M true S.E S.D q p b).1 = F := ⟨_, rfl⟩
  rw [hF] at k1 k3 ⊢
  rw [ho] at j1 j3
  have hcl : (F ++ o).length = 16 * q + 16 := by rw [List.length_append, k1, j1]
  have tk : T.keep = 1 := by unfold StmS.keep; rw [if_pos ⟨by rw [tm]; exact h3, te⟩]
  have tnb : T.nb (F ++ o).length = q := by unfold StmS.nb; rw [tk, hcl]; omega
  have tb : T.blk (F ++ o) = (b.take (16 * q), (blkN M true S.E S.D q p b).2) := by
   unfold StmS.blk
   rw [tm, te, tnb, tp, hTE, hTD, blkN_front M false S.E S.D q p F o (by omega)]
   exact k3
  have g2 : T.front (F ++ o) = b.take (16 * q) := by unfold StmS.front; rw [tm, if_neg h4, if_neg h5, tb]
  have hdr : (F ++ o).drop (16 * q) = o := List.drop_left' k1
  have f2 : T.fin (F ++ o) = (r, 0) := by
   unfold StmS.fin endB
   rw [tm, if_neg h4, if_neg h5, if_pos h3, te, if_neg (by decide), tnb, hdr, if_pos j1, tb, hTE, hTD]
   simp only
   rw [j3]
   simp only
   rw [← hx]
   exact strip_pad r hrl
  rw [f2, g2, if_pos rfl, ← hr, List.take_append_drop]
 ·have hb0 : b.length % 16 = 0 := hb (by omega)
  have hdn : b.drop (16 * q) = [] := List.drop_eq_nil_of_le (by omega)
  have f1 : S.fin b = ([], 0) := by
   unfold StmS.fin endB
   rw [sm, if_neg h4, if_neg h5, if_neg h3, snb, hdn, if_pos rfl]
  rw [f1, g1, if_pos rfl]
  refine ⟨fun h => absurd rfl h, fun _ => ?_, ?_⟩
  rotate_left
  ·simp only [List.append_nil]
   omega
  simp only [List.append_nil]
  obtain ⟨F, hF⟩ : ∃ F, (blkN M true S.E S.D q p b).1 = F := ⟨_, rfl⟩
  rw [hF] at k1 k3 ⊢
  have tk : T.keep = 0 := by unfold StmS.keep; rw [if_neg (by rw [tm]; omega)]
  have tnb : T.nb F.length = q := by unfold StmS.nb; rw [tk, k1]; omega
  have tb : T.blk F = (b.take (16 * q), (blkN M true S.E S.D q p b).2) := by
   unfold StmS.blk
   rw [tm, te, tnb, tp, hTE, hTD]
   exact k3
  have g2 : T.front F = b := by unfold StmS.front; rw [tm, if_neg h4, if_neg h5, tb]; exact List.take_of_length_le (by omega)
  have f2 : T.fin F = ([], 0) := by
   unfold StmS.fin endB
   rw [tm, if_neg h4, if_neg h5, if_neg h3, tnb, List.drop_eq_nil_of_le (by omega), if_pos rfl]
  rw [f2, g2, if_pos rfl, List.append_nil]
theorem all_back5 (k p b : List UInt8) : ((allF 5 true k p b).2 = 0 → allF 5 false k p (allF 5 true k p b).1 = (b, 0)) ∧ (allF 5 true k p b).1.length ≤ b.length + 32 := by
 unfold allF
 rw [if_neg (by decide)]
 by_cases hk : keyOk k
 case neg =>
  rw [if_pos hk]
  exact ⟨fun h => (by cases h), by simp⟩
 have hk' : ¬ ¬ keyOk k := fun h => h hk
 rw [if_neg hk', if_neg hk']
 by_cases hp : parOk (5 : Int).toNat p
 case neg =>
  rw [if_pos hp]
  exact ⟨fun h => (by cases h), by simp⟩
 have hp' : ¬ ¬ parOk (5 : Int).toNat p := fun h => h hp
 rw [if_neg hp', if_neg hp']
 obtain ⟨M, hM⟩ : ∃ M, (5 : Int).toNat = M := ⟨_, rfl⟩
 have h5 : M = 5 := by rw [← hM]; rfl
 rw [hM] at hp
 have hp2 : ¬ ¬ parOk M p := fun h => h hp
 rw [hM]
 have hks : (rks k).length = 16 * ((rks k).length / 16) := by have := rks_len k hk; omega
 obtain ⟨S, hS⟩ : ∃ S, PSof M true k p = S := ⟨_, rfl⟩
 obtain ⟨T, hT⟩ : ∃ T, PSof M false k p = T := ⟨_, rfl⟩
 have hE : ∀ l : List UInt8, l.length = 16 → (S.E l).length = 16 := fun l hl => by rw [← hS]; exact enc_ne _ _ l hl hks
 have hTE : T.E = S.E := by rw [← hS, ← hT]; rfl
 have sm : S.mode = M := by rw [← hS]; rfl
 have tm : T.mode = M := by rw [← hT]; rfl
 have se : S.enc = true := by rw [← hS]; rfl
 have te : T.enc = false := by rw [← hT]; rfl
 have sp : S.p = p := by rw [← hS]; rfl
 have hcn : ∀ l, T.cn l = S.cn l := fun l => by rw [← hS, ← hT]; rfl
 have hj : T.j = S.j := by rw [← hS, ← hT]; rfl
 have hda : T.data = S.data := by rw [← hS, ← hT]; rfl
 have hEn : ∀ l : List UInt8, l.length = 16 → S.E l ≠ [] := fun l hl h => by have := hE l hl; rw [h] at this; cases this
 rw [hS, hT]
 have hpo : parOk S.mode S.p := by rw [sm, sp]; exact hp
 have hc0 := S.c0_len hpo (by rw [sm]; exact .inr h5)
 have hjl := S.j_len hpo (by rw [sm]; exact h5)
 have htl : (tagL S.E S.data (S.cn b).1 (S.E S.j)).length = 16 := tagL_len _ _ _ _ (hE _ hjl)
 obtain ⟨tg, htg⟩ : ∃ t, tagL S.E S.data (S.cn b).1 (S.E S.j) = t := ⟨_, rfl⟩
 have f1 : S.fin b = (tg, 0) := by unfold StmS.fin; rw [sm, if_neg (by omega), if_pos h5, se, if_pos rfl, htg]
 have g1 : S.front b = (S.cn b).1 := by unfold StmS.front; rw [sm, if_neg (by omega), if_pos h5, se, if_pos rfl]
 have g2 : T.front ((S.cn b).1 ++ tg) = [] := by unfold StmS.front; rw [tm, if_neg (by omega), if_pos h5, te, if_neg (by decide)]
 have hln : ((S.cn b).1 ++ tg).length - 16 = (S.cn b).1.length := by rw [List.length_append, ← htg, htl]; omega
 have f2 : T.fin ((S.cn b).1 ++ tg) = (b, 0) := by
  unfold StmS.fin
  rw [tm, if_neg (by omega), if_pos h5, te, if_neg (by decide)]
  unfold StmS.open_
  rw [if_neg (by rw [List.length_append, ← htg, htl]; omega), hln, List.take_left', List.drop_left', hTE, hj, hda, if_pos htg, hcn]
  ·exact congrArg (·, (0 : Int)) (cnt1_twice S.E S.wd hEn b [] S.c0 hc0)
  ·rfl
  ·rfl
 rw [f1, g1, if_pos rfl]
 refine ⟨fun _ => ?_, ?_⟩
 rotate_left
 ·have h1 := cnt1_le S.E S.wd b [] S.c0
  have h2 : (S.cn b).1.length ≤ b.length := h1
  have h3 : tg.length = 16 := by rw [← htg]; exact htl
  simp only [List.length_append]
  omega
 simp only
 rw [f2, g2, if_pos rfl, List.nil_append]
 rfl
end Go.Proofs.YtgjnmpjimhbfgaaGreatDoor
