/-
  Modes: a stream's end: end, Final.
-/
import Derived.Test.YtgjnmpjimhbfgaaGreatDoorZzMo16
import Derived.Lib.SlBytesConst
import Derived.Test.YtgjnmpjimhbfgaaGreatDoorZzMo11
import Derived.Test.YtgjnmpjimhbfgaaGreatDoorZzAesR2
import Derived.Test.YtgjnmpjimhbfgaaGreatDoorZzAesV
namespace Go.Proofs.YtgjnmpjimhbfgaaGreatDoor
set_option maxRecDepth 100000
open Go.RowKit
theorem PS.c0_len (s : PS) (h : parOk s.mode s.p) (hm : s.mode = 4 ∨ s.mode = 5) : s.c0.length = 16 := by
 unfold parOk at h
 rw [if_neg (by omega)] at h
 rcases hm with hm | hm
 ·rw [if_pos hm] at h
  unfold PS.c0
  rw [if_pos hm, List.length_drop]
  omega
 ·rw [if_neg (by omega), if_pos hm] at h
  obtain ⟨h1, h2, h3⟩ := h
  unfold PS.c0 PS.j gcmJ
  rw [if_neg (by omega), stepL_len]
  split
  ·rename_i h12
   rw [List.length_append, List.length_take, List.length_drop]
   simp
   omega
  ·unfold gh; simp [wr16, bytes64]
set_option maxHeartbeats 1000000 in
theorem end_any (G : List Nat) (d : Nat) (s : PS) (all : List UInt8) (w : World) (h : StrAt w G d s all) (hc0 : s.mode = 4 ∨ s.mode = 5 → s.c0.length = 16) (hd : s.data.length ≤ 100000) (hn : all.length ≤ 100000) :
  Calls Tryz.prog 98 #[.pointer (some ⟨d, 0, none⟩)] w (EndRes w G d (s.fin all)) := by
 rcases h with ⟨hm, x, W, m, cw, L, nl, cl, h⟩ | ⟨hm, x, W, P, M, D, O, h⟩ | ⟨hm, he, x, W, P, M, D, O, h⟩ | ⟨hm, he, x, W, P, M, D, O, h⟩
 ·obtain ⟨xd, xm, xe, xk, xr, bk, g1, g2⟩ := h
  subst xd
  have hE : x.E = s.E := by unfold BX.E PS.E; rw [xk, xr]
  have hD : x.D = s.D := by unfold BX.D PS.D; rw [xk, xr]
  have hwl : m = all.length - 16 * s.nb all.length := by rw [bk.wait.rd.1]; simp
  have hf : s.fin all = endB x.mode x.enc x.E x.D (s.blk all).2 (all.drop (16 * s.nb all.length)) := by unfold PS.fin; rw [if_neg (by omega), if_neg (by omega), xm, xe, hE, hD]
  rw [hf]
  refine (endB_any x W m cw _ L nl cl _ w bk (by omega) (fun h3 he => ?_) (by omega)).mono ?_
  ·have hk : s.keep = 0 := by unfold PS.keep; rw [if_neg]; rw [← xe, he]; simp
   unfold PS.nb at hwl
   rw [hk] at hwl
   omega
  ·rintro e w' ⟨A, n, c, rfl, h1, ⟨W1, m1, cw1, L1, nl1, cl1, last1, h2⟩, h3, h4⟩
   refine ⟨A, n, c, rfl, h1, ⟨_, h2.blk, rfl, rfl⟩, h3.more (fun y hy => ?_), by omega⟩
   simp only [List.mem_cons] at hy
   rcases hy with rfl | hy
   ·exact g1.1
   ·cases W with
    | none => simp at hy
    | some ad => simp at hy; rw [hy]; exact g2 ad (.inl rfl)
 ·have hf : s.fin all = ([], 0) := by unfold PS.fin; rw [if_pos hm]
  rw [hf]
  obtain ⟨xd, xm, xe, xk, xr, xw, gc, _⟩ := h
  subst xd
  have y0 := gc.cells.cell 0
  simp only [stG, List.getElem?_toArray, List.getElem?_cons_zero] at y0
  rw [xm, hm, show ((4 : Nat) : Int) = 4 from rfl] at y0
  have HH := Lib.hid gc
  clear gc hf hm
  go_enter Tryz.func98, Tryz.ntmps98
  go_wp2_with fail
  refine bodyPost_ret (results_tmp2 rfl _ _ _) rfl ?_
  exact ⟨none, 0, 0, rfl, Rd.nil _, ⟨_, HH.out.cells, rfl, rfl⟩, Turn.refl _ _, by omega⟩
 ·have hf : s.fin all = (tagL s.E s.data (s.cn all).1 (s.E s.j), 0) := by unfold PS.fin; rw [if_neg (by omega), if_pos hm, if_pos he]
  rw [hf]
  have hE := h.E
  have hlen : (s.cn all).1.length ≤ 100000 := by
   have := (cnt1_len s.E s.wd (fun l hl e => by
    have h1 : (s.E l).length = 16 := enc_ne s.ks s.R l hl (by rw [← h.xk, ← h.xr]; exact h.gc.cnt.cip.2.2.2.2.2.1)
    rw [e] at h1
    cases h1) all [] s.c0 (hc0 (.inr hm))).1
   unfold PS.cn
   omega
  obtain ⟨xd, xm, xe, xk, xr, xw, gc, wl, pl, ol, md, wn, on, g1, g2⟩ := h
  subst xd
  have y0 := gc.cells.cell 0
  have y1 := gc.cells.cell 1
  have y10 : w.cell? ⟨x.d, 10, none⟩ = some (.slice O.A O.n O.c) := gc.cells.cell 10
  simp only [stG, List.getElem?_toArray, List.getElem?_cons_zero, List.getElem?_cons_succ] at y0 y1
  rw [xm, hm, show ((5 : Nat) : Int) = 5 from rfl] at y0
  rw [xe, he] at y1
  have hOr : Rd w O.A O.n O.c (s.cn all).1 := by rw [← ol]; exact gc.out.rd
  have hDn : D.n ≤ 100000 := by have := (show Rd w D.A D.n D.c D.l from gc.data).1; rw [(md hm).2] at this; omega
  have hcall := gc.tag x W P M D O _ w (by rw [xm]; exact hm) hDn O.A O.n O.c _ hOr (by have := hOr.1; omega)
  rw [hE, (md hm).1, (md hm).2] at hcall
  have HH := Lib.hid (And.intro gc hcall)
  clear gc hcall hf hm md hOr hDn hlen
  go_enter Tryz.func98, Tryz.ntmps98
  go_wp2_with fail
  refine HH.out.2.mono ?_
  rintro e w1 ⟨A', c', rfl, ho, hB⟩
  have HR := Lib.hid (And.intro ho hB)
  clear ho hB
  go_wp2_with fail
  refine bodyPost_ret (results_tmp2 rfl _ _ _) rfl ?_
  exact ⟨A', 16, c', rfl, HR.out.1.rd, ⟨_, (HH.out.1.below HR.out.2).cells, rfl, rfl⟩, Turn.of_below G HR.out.2, by omega⟩
 ·have hf : s.fin all = s.open_ all := by unfold PS.fin; rw [if_neg (by omega), if_pos hm, if_neg (by rw [he]; decide)]
  rw [hf]
  have hcall := opened_any G d s all x W P M D O w h hm he hd hn
  obtain ⟨xd, xm, xe, xk, xr, xw, gc, wl, pl, ol, md, wn, on, g1, g2⟩ := h
  subst xd
  have y0 := gc.cells.cell 0
  have y1 := gc.cells.cell 1
  simp only [stG, List.getElem?_toArray, List.getElem?_cons_zero, List.getElem?_cons_succ] at y0 y1
  rw [xm, hm, show ((5 : Nat) : Int) = 5 from rfl] at y0
  rw [xe, he] at y1
  have HH := Lib.hid hcall
  clear gc hcall hf hm md
  go_enter Tryz.func98, Tryz.ntmps98
  go_wp2_with fail
  refine HH.out.mono ?_
  rintro e w1 ⟨A', n', c', rfl, h1, h2, h3⟩
  have HR := Lib.hid (And.intro h1 (And.intro h2 h3))
  clear h1 h2 h3
  go_wp2_with fail
  refine bodyPost_ret (results_tmp2 rfl _ _ _) rfl ?_
  exact ⟨A', n', c', rfl, HR.out.1, HR.out.2.1, HR.out.2.2⟩
theorem StrAt.mem {w : World} {G : List Nat} {d : Nat} {s : PS} {all : List UInt8} (h : StrAt w G d s all) : d ∈ G ∧ w.cell? ⟨d, 11, none⟩ = some (.bool false) := by
 rcases h with ⟨hm, x, W, m, cw, L, nl, cl, h⟩ | ⟨hm, x, W, P, M, D, O, h⟩ | ⟨hm, he, x, W, P, M, D, O, h⟩ | ⟨hm, he, x, W, P, M, D, O, h⟩
 ·exact ⟨h.g1.1, by have := h.bk.bkc.blk.cell 11; rw [h.xd] at this; exact this⟩
 ·exact ⟨h.g1.1, by have := h.gc.cells.cell 11; rw [h.xd] at this; exact this⟩
 ·exact ⟨h.g1.1, by have := h.gc.cells.cell 11; rw [h.xd] at this; exact this⟩
 ·exact ⟨h.g1.1, by have := h.gc.cells.cell 11; rw [h.xd] at this; exact this⟩
set_option maxHeartbeats 1000000 in
theorem final_any (G : List Nat) (d : Nat) (s : PS) (all : List UInt8) (w : World) (h : StrAt w G d s all) (hc0 : s.mode = 4 ∨ s.mode = 5 → s.c0.length = 16) (hd : s.data.length ≤ 100000) (hn : all.length ≤ 100000) :
  Calls Tryz.prog 75 #[.pointer (some ⟨d, 0, none⟩)] w (FinRes w G d (s.fin all)) := by
 have hcall := end_any G d s all w h hc0 hd hn
 obtain ⟨hg, y11⟩ := h.mem
 have HH := Lib.hid (And.intro hcall hg)
 clear hcall hg h
 go_enter Tryz.func75, Tryz.ntmps75
 go_wp2_with fail
 refine HH.out.1.mono ?_
 rintro e w1 ⟨A, n, c, rfl, h1, ⟨cs, h2, h3, h4⟩, h5, h6⟩
 obtain ⟨u4, hu4⟩ : ∃ u, cs[4]? = some u := ⟨_, Array.getElem?_eq_getElem (by omega)⟩
 obtain ⟨u11, hu11⟩ : ∃ u, cs[11]? = some u := ⟨_, Array.getElem?_eq_getElem (by omega)⟩
 have z4 := h2.cell 4
 have z11 := h2.cell 11
 rw [hu4] at z4
 rw [hu11] at z11
 have f4 := h2.frozen 4
 have f11 := h2.frozen 11
 have hb := (h2.set_ 11 (.bool true)).set_ 4 (.slice none 0 0)
 have hT : Turn [d] w1 ((w1.setCell ⟨d, 11, none⟩ (.bool true)).setCell ⟨d, 4, none⟩ (.slice none 0 0)) := Turn.trans turn_put turn_put (fun y hy => .inl hy)
 have hN : ∀ g ∈ [d], NoB w1 g := fun g hg => by simp at hg; subst hg; exact NoB.of h2 h4
 have HR := Lib.hid (And.intro (h1.turnB hT hN) (And.intro hb (And.intro h3 (And.intro h4 (h5.trans hT (fun y hy => .inl (by simp at hy; subst hy; exact HH.out.2)))))))
 clear h1 h2 h3 h4 h5 hb hT hN hu4 hu11
 go_wp2_with fail
 refine bodyPost_ret (results_tmp2 rfl _ _ _) rfl ?_
 refine ⟨A, n, c, rfl, HR.out.1, ⟨_, HR.out.2.1, ?_, ?_, all_set (all_set HR.out.2.2.2.1 rfl) rfl⟩, HR.out.2.2.2.2, h6⟩
 ·rw [Array.getElem?_setIfInBounds_ne (by decide), Array.getElem?_setIfInBounds_self_of_lt (by rw [HR.out.2.2.1]; decide)]
 ·rw [Array.getElem?_setIfInBounds_self_of_lt (by rw [Array.size_setIfInBounds, HR.out.2.2.1]; decide)]
def allF (mode : Int) (enc : Bool) (k p b : List UInt8) : List UInt8 × Int :=
 if mode < 1 ∨ 5 < mode then ([], 112) else if ¬ keyOk k then ([], 98) else if ¬ parOk mode.toNat p then ([], 113)
 else if ((PSof mode.toNat enc k p).fin b).2 = 0 then ((PSof mode.toNat enc k p).front b ++ ((PSof mode.toNat enc k p).fin b).1, 0) else ([], ((PSof mode.toNat enc k p).fin b).2)
def AllRes (w : World) (r : List UInt8 × Int) (e : Ending) (w' : World) : Prop := ∃ A n c, e = .returned (.tuple #[.slice A n c, .int .i64 r.2]) ∧ Own w' w.heap.size (.slice A n c) r.1 ∧ Old w w'
theorem PS.front_nil (s : PS) : s.front [] = [] := by
 unfold PS.front PS.blk
 rw [PS.nb0]
 split
 ·rfl
 ·split
  ·split <;> rfl
  ·rfl
theorem Old.turnG {w w1 w2 : World} {G : List Nat} (h : Old w w1) (ht : Turn G w1 w2) (hG : ∀ x ∈ G, w.heap.size ≤ x) : Old w w2 := below_turn h ht hG h.size
set_option maxHeartbeats 2000000 in
theorem modesAll_any (mode : Int) (enc : Bool) (A C B : Option Addr) (mk ck m cm n cn : Nat) (k p b : List UInt8) (w : World) (hk : Rd w A mk ck k) (hp : Rd w C m cm p) (hb : Rd w B n cn b) (hm : m ≤ 100000) (hn : n ≤ 100000) :
  Calls Tryz.prog 44 #[.int .i64 mode, .bool enc, .slice A mk ck, .slice C m cm, .slice B n cn] w (AllRes w (allF mode enc k p b)) := by
 obtain ⟨RES, hRES⟩ : ∃ r, allF mode enc k p b = r := ⟨_, rfl⟩
 rw [hRES]
 unfold allF at hRES
 by_cases hmode : mode < 1 ∨ 5 < mode
 ·rw [if_pos hmode] at hRES
  have hcall := new_mode mode enc A C mk ck m cm w hmode
  have HH := Lib.hid (And.intro hcall hRES)
  clear hcall hRES hmode hk hp hb
  go_enter Tryz.func44, Tryz.ntmps44
  go_wp2_with fail
  refine HH.out.1.mono ?_
  rintro e w1 ⟨rfl, rfl⟩
  go_wp2_with fail
  refine bodyPost_ret (results_tmp2 rfl _ _ _) rfl ?_
  rw [← HH.out.2]
  exact ⟨none, 0, 0, rfl, Own.nil _ _, Old.refl _⟩
 ·rw [if_neg hmode] at hRES
  obtain ⟨mo, rfl⟩ := Int.eq_ofNat_of_zero_le (show 0 ≤ mode by omega)
  rw [Int.toNat_natCast] at hRES
  have hcall := modesNew_any mo enc A C mk ck m cm k p w hk hp (by omega) (by omega) (by omega)
  by_cases hko : keyOk k
  ·rw [if_neg (fun h => h hko)] at hRES
   by_cases hpo : parOk mo p
   ·rw [if_neg (fun h => h hpo)] at hRES
    have hpost : ∀ e w', NewPost w mo enc k p e w' → ∃ d, e = .returned (.tuple #[.pointer (some ⟨d, 0, none⟩), .int .i64 0]) ∧ NewRes w (PSof mo enc k p) w' d := fun e w' h => by
     unfold NewPost at h
     rwa [if_neg (fun h => h hko), if_neg (fun h => h hpo)] at h
    obtain ⟨s, hs⟩ : ∃ s, PSof mo enc k p = s := ⟨_, rfl⟩
    rw [hs] at hRES hpost
    have hc0 : s.mode = 4 ∨ s.mode = 5 → s.c0.length = 16 := s.c0_len (by rw [← hs]; exact hpo)
    have hsp : s.p = p := by rw [← hs]; rfl
    have hdl : s.data.length ≤ 100000 := by
     unfold PS.data
     rw [List.length_drop, hsp]
     have := hp.1
     omega
    have hnb := hb.1
    have HH := Lib.hid (And.intro (hcall.mono hpost) (And.intro hRES (And.intro hc0 (And.intro hdl (And.intro hb hnb)))))
    clear hcall hpost hRES hc0 hsp hdl hb hnb hk hp hko hpo hmode hs
    go_enter Tryz.func44, Tryz.ntmps44
    go_wp2_with fail
    refine HH.out.1.mono ?_
    rintro e w1 ⟨d, rfl, G, hS, hG, hO⟩
    have H1 := Lib.hid (And.intro hS (And.intro hG hO))
    clear hS hG hO
    go_wp2_with fail
    refine (update_any G d s [] B n cn b w1 H1.out.1 HH.out.2.2.1 (HH.out.2.2.2.2.1.below H1.out.2.2) (fun ad e hm => by have h1 := (H1.out.2.1 _ hm).1; have h2 := HH.out.2.2.2.2.1.lt ad e; omega) (fun x hx => (H1.out.2.1 x hx).2) (by simp; omega)).mono ?_
    rintro e w2 ⟨A2, n2, c2, G2, rfl, u1, u2, u3, u4, u5, u6, u7⟩
    rw [List.nil_append, s.front_nil, List.length_nil, List.drop_zero] at u1
    rw [List.nil_append] at u2
    have hO2 : Old w w2 := H1.out.2.2.turnG u3 (fun x hx => (H1.out.2.1 x hx).1)
    have hG2 : ∀ x ∈ G2, w.heap.size ≤ x := fun x hx => by
     rcases u4 x hx with h | h
     ·exact (H1.out.2.1 x h).1
     ·exact Nat.le_trans H1.out.2.2.size h
    have H2 := Lib.hid (And.intro u1 (And.intro u2 (And.intro hO2 (And.intro hG2 (And.intro u6 (And.intro u7 u3.size))))))
    clear u1 u2 u3 u4 u5 u6 u7 hO2 hG2
    go_wp2_with fail
    refine (final_any G2 d s b w2 H2.out.2.1 HH.out.2.2.1 HH.out.2.2.2.1 (by have := HH.out.2.2.2.2.2; omega)).mono ?_
    rintro e w3 ⟨A3, n3, c3, rfl, v1, v2, v3, v4⟩
    obtain ⟨rv, hrv⟩ : ∃ rv, (s.fin b).2 = rv := ⟨_, rfl⟩
    have hR := HH.out.2.1
    rw [hrv] at hR ⊢
    have H3 := Lib.hid (And.intro v1 (And.intro (H2.out.2.2.1.turnG v3 H2.out.2.2.2.1) (And.intro v4 (H2.out.1.turn v3 (fun g hg => H2.out.2.2.2.2.1 g hg)))))
    have hs21 : w.heap.size ≤ w1.heap.size := H1.out.2.2.size
    have hs31 : w1.heap.size ≤ w3.heap.size := Nat.le_trans H2.out.2.2.2.2.2.2 v3.size
    clear v1 v2 v3 v4
    by_cases hz : rv = 0
    ·subst hz
     rw [if_pos rfl] at hR
     have HR := Lib.hid hR
     clear hR hrv
     go_wp2_with (at_builtin; refine wp_app2 (.tmp 38) (.tmp 39) w1.heap.size (.slice A2 n2 c2) _ H3.out.2.2.2 hs31 A3 n3 c3 _ H3.out.1 (by have h1 := H2.out.1.len; have h2 := H3.out.1.1; have h3 := H2.out.2.2.2.2.2.1; have h4 := H3.out.2.2.1; have h5 := HH.out.2.2.2.2.2; simp only [List.length_nil] at h3; omega) rfl rfl rfl rfl ?_; intro A5 n5 c5 w5 hn5 hG5; have H5 := Lib.hid hG5; clear hG5)
     refine bodyPost_ret (results_tmp2 rfl _ _ _) rfl ?_
     rw [← HR.out]
     exact ⟨A5, n5, c5, rfl, H5.out.own.mono hs21, H3.out.2.1.trans_below (H5.out.below.mono hs21)⟩
    ·have hzb : (rv != 0) = true := by simp; exact hz
     rw [if_neg hz] at hR
     have HR := Lib.hid hR
     clear hR hrv
     go_wp2_with fail
     refine bodyPost_ret (results_tmp2 rfl _ _ _) rfl ?_
     rw [← HR.out]
     exact ⟨none, 0, 0, rfl, Own.nil _ _, H3.out.2.1⟩
   ·rw [if_pos hpo] at hRES
    have hpost : ∀ e w', NewPost w mo enc k p e w' → e = .returned (.tuple #[.pointer none, .int .i64 113]) ∧ Old w w' := fun e w' h => by
     unfold NewPost at h
     rwa [if_neg (fun h => h hko), if_pos hpo] at h
    have HH := Lib.hid (And.intro (hcall.mono hpost) hRES)
    clear hcall hpost hRES hb hk hp hko hpo hmode
    go_enter Tryz.func44, Tryz.ntmps44
    go_wp2_with fail
    refine HH.out.1.mono ?_
    rintro e w1 ⟨rfl, hO⟩
    have HO := Lib.hid hO
    clear hO
    go_wp2_with fail
    refine bodyPost_ret (results_tmp2 rfl _ _ _) rfl ?_
    rw [← HH.out.2]
    exact ⟨none, 0, 0, rfl, Own.nil _ _, HO.out⟩
  ·rw [if_pos hko] at hRES
   have hpost : ∀ e w', NewPost w mo enc k p e w' → e = .returned (.tuple #[.pointer none, .int .i64 98]) ∧ Old w w' := fun e w' h => by
    unfold NewPost at h
    rwa [if_pos hko] at h
   have HH := Lib.hid (And.intro (hcall.mono hpost) hRES)
   clear hcall hpost hRES hb hk hp hko hmode
   go_enter Tryz.func44, Tryz.ntmps44
   go_wp2_with fail
   refine HH.out.1.mono ?_
   rintro e w1 ⟨rfl, hO⟩
   have HO := Lib.hid hO
   clear hO
   go_wp2_with fail
   refine bodyPost_ret (results_tmp2 rfl _ _ _) rfl ?_
   rw [← HH.out.2]
   exact ⟨none, 0, 0, rfl, Own.nil _ _, HO.out⟩
theorem getD_some {b : List UInt8} {i : Nat} {x : UInt8} (h : b[i]? = some x) : b.getD i 0 = x := by rw [List.getD_eq_getElem?_getD, h]; rfl
def cmOdd (b : List UInt8) : Prop := b.length = 0 ∨ 0 < b.length % 16
instance (b : List UInt8) : Decidable (cmOdd b) := by unfold cmOdd; infer_instance
def wrapLen (m : Nat) : Prop := 16 ≤ m ∧ m ≤ 65528 ∧ m % 8 = 0
instance (m : Nat) : Decidable (wrapLen m) := by unfold wrapLen; infer_instance
theorem bytes64_len (x : UInt64) : (bytes64 x).length = 8 := rfl
def RvRes (w : World) (r : List UInt8 × Int) (e : Ending) (w' : World) : Prop := ∃ A n c, e = .returned (.tuple #[.slice A n c, .int .i64 r.2]) ∧ Rd w' A n c r.1 ∧ Old w w'
theorem RvRes.nil (w w' : World) (rv : Int) (h : Old w w') : RvRes w ([], rv) (.returned (.tuple #[.slice none 0 0, .int .i64 rv])) w' := ⟨none, 0, 0, rfl, Rd.nil _, h⟩
def unwrapLen (m : Nat) : Prop := 24 ≤ m ∧ m ≤ 65536 ∧ m % 8 = 0
instance (m : Nat) : Decidable (unwrapLen m) := by unfold unwrapLen; infer_instance
theorem StrG.turn {w w' : World} {G S : List Nat} {d : Nat} {s : PS} {wl ctr pl ol : List UInt8} {x : GX} {W P M D O : Vw} (h : StrG w G d s wl ctr pl ol x W P M D O) (ht : Turn S w w') (hn : ∀ x ∈ G, x ∉ S) : StrG w' G d s wl ctr pl ol x W P M D O := by
 have hd : x.d ∉ S := hn _ (by rw [h.xd]; exact h.g1.1)
 refine ⟨h.xd, h.xm, h.xe, h.xk, h.xr, h.xw, ⟨⟨h.gc.cnt.ok, h.gc.cnt.blk.turn ht hd, h.gc.cnt.cip.turn ht (hn _ h.g1.2.1) (hn _ h.g1.2.2.1), h.gc.cnt.ctr.turn ht (hn _ h.g1.2.2.2), h.gc.cnt.pad.turn ht (fun ad e => hn _ (h.g2 ad (.inr (.inl e)))), h.gc.cnt.ne⟩, h.gc.wait.turn ht (fun ad e => hn _ (h.g2 ad (.inl e))),
  Rd.turn h.gc.mask ht (fun ad e => hn _ (h.g2 ad (.inr (.inr (.inl e))))), h.gc.m16, Rd.turn h.gc.data ht (fun ad e => hn _ (h.g2 ad (.inr (.inr (.inr (.inl e)))))), h.gc.out.turn ht (fun g hg => ?_), h.gc.sg, h.gc.sw, h.gc.aw, h.gc.ao⟩, h.wl, h.pl, h.ol, h.md, h.wn, h.on, h.g1, h.g2⟩
 cases hA : O.A with
 | none => rw [Vw.v, hA] at hg; simp [Value.ownBlock] at hg
 | some ad => rw [Vw.v, hA] at hg; simp [Value.ownBlock] at hg; subst hg; exact hn _ (h.g2 ad (.inr (.inr (.inr (.inr hA)))))
theorem StrAt.turn {w w' : World} {G S : List Nat} {d : Nat} {s : PS} {all : List UInt8} (h : StrAt w G d s all) (ht : Turn S w w') (hS : ∀ x ∈ S, x ∉ G) : StrAt w' G d s all := by
 have hn : ∀ x ∈ G, x ∉ S := fun x hx hm => hS x hm hx
 rcases h with ⟨hm, x, W, m, cw, L, nl, cl, h⟩ | ⟨hm, x, W, P, M, D, O, h⟩ | ⟨hm, he, x, W, P, M, D, O, h⟩ | ⟨hm, he, x, W, P, M, D, O, h⟩
 ·refine .inl ⟨hm, x, W, m, cw, L, nl, cl, ⟨h.xd, h.xm, h.xe, h.xk, h.xr, ⟨⟨h.bk.bkc.blk.turn ht (hn _ (by rw [h.xd]; exact h.g1.1)), h.bk.bkc.cip.turn ht (hn _ h.g1.2.1) (hn _ h.g1.2.2), h.bk.bkc.last.turn ht (fun ad e => hn _ (h.g2 ad (.inr e))), h.bk.bkc.l16⟩, h.bk.wait.turn ht (fun ad e => hn _ (h.g2 ad (.inl e))), h.bk.ahead, h.bk.sep⟩, h.g1, h.g2⟩⟩
 ·exact .inr (.inl ⟨hm, x, W, P, M, D, O, h.turn ht hn⟩)
 ·exact .inr (.inr (.inl ⟨hm, he, x, W, P, M, D, O, h.turn ht hn⟩))
 ·exact .inr (.inr (.inr ⟨hm, he, x, W, P, M, D, O, h.turn ht hn⟩))
theorem StrAt.below {w w' : World} {G : List Nat} {d : Nat} {s : PS} {all : List UInt8} (h : StrAt w G d s all) (hb : Old w w') : StrAt w' G d s all := h.turn (Turn.of_below [] hb) (fun x hx => by cases hx)
def leN (x : UInt8) (n : Int) : Bool := decide ((x.toNat : Int) ≤ n)
theorem leqI_B (t : TypeId) (x : UInt8) (n : Int) : binOp .leq t (B x) (.int .u8 n) = pure (.bool (leN x n)) := by
 rw [show B x = .int .u8 (x.toNat : Int) from rfl]
 exact binOp_leq t .u8 _ _
attribute [local go_sem] leqI_B
def mayF (mode : Int) (k p : List UInt8) : Int := if mode < 1 ∨ 5 < mode then 112 else if ¬ keyOk k then 98 else if ¬ parOk mode.toNat p then 113 else 0
theorem par0 {A : Option Addr} {m c : Nat} {p : List UInt8} {w : World} (hp : Rd w A m c p) (h : 0 < m) : ∃ b off z, A = some ⟨b, off, none⟩ ∧ p.getD 0 0 = z ∧ w.cell? ⟨b, off, none⟩ = some (B z) := by
 obtain ⟨b, off, hA, hat⟩ := hp.addr h
 obtain ⟨z, hz⟩ : ∃ z, p[0]? = some z := ⟨_, List.getElem?_eq_getElem (by have := hp.1; omega)⟩
 have := hat.2 0 z hz
 rw [Nat.add_zero] at this
 exact ⟨b, off, z, hA, by rw [List.getD_eq_getElem?_getD, hz]; rfl, this⟩
end Go.Proofs.YtgjnmpjimhbfgaaGreatDoor
namespace Go.Proofs.YtgjnmpjimhbfgaaGreatDoor
set_option maxRecDepth 100000
open Go.RowKit
theorem cnt1_twice (E : List UInt8 → List UInt8) (wd : Nat) (hE : ∀ l : List UInt8, l.length = 16 → E l ≠ []) : ∀ (a pad ctr : List UInt8), ctr.length = 16 → (cnt1 E wd (cnt1 E wd a pad ctr).1 pad ctr).1 = a
 | [], pad, ctr, hc => rfl
 | x :: a, y :: pad, ctr, hc => by
  have ih := cnt1_twice E wd hE a pad ctr hc
  simp only [cnt1]
  rw [ih, UInt8.xor_assoc, UInt8.xor_self, UInt8.xor_zero]
 | x :: a, [], ctr, hc => by
  cases h : E ctr with
  | nil => exact absurd h (hE ctr hc)
  | cons y p =>
   have ih := cnt1_twice E wd hE a p (stepL wd ctr) (by rw [stepL_len]; exact hc)
   simp only [cnt1, h]
   rw [ih, UInt8.xor_assoc, UInt8.xor_self, UInt8.xor_zero]
theorem blkF_back (mode : Nat) (E D : List UInt8 → List UInt8) (hE : ∀ l, l.length = 16 → (E l).length = 16) (hDE : ∀ l, l.length = 16 → D (E l) = l) (iv b : List UInt8) (hi : mode ≠ 1 → iv.length = 16) (hb : b.length = 16) :
  (blkF mode true E D iv b).1.length = 16 ∧ (mode ≠ 1 → (blkF mode true E D iv b).2.length = 16) ∧ blkF mode false E D iv (blkF mode true E D iv b).1 = (b, (blkF mode true E D iv b).2) := by
 unfold blkF
 by_cases hm : mode = 1
 ·simp only [if_pos hm, if_true]
  refine ⟨hE b hb, fun h => absurd hm h, ?_⟩
  simp only [Bool.false_eq_true, if_false]
  rw [hDE b hb]
 ·have hx : (xorL b iv).length = 16 := xorL_lenLe _ _ 16 hb (by rw [hi hm]; exact Nat.le_refl _)
  simp only [if_neg hm, if_true]
  refine ⟨hE _ hx, fun _ => hE _ hx, ?_⟩
  simp only [Bool.false_eq_true, if_false]
  rw [hDE _ hx, xorL_back _ _ (by rw [hb, hi hm])]
theorem blkN_back (mode : Nat) (E D : List UInt8 → List UInt8) (hE : ∀ l, l.length = 16 → (E l).length = 16) (hDE : ∀ l, l.length = 16 → D (E l) = l) : ∀ (q : Nat) (iv l : List UInt8), (mode ≠ 1 → iv.length = 16) → 16 * q ≤ l.length →
  (blkN mode true E D q iv l).1.length = 16 * q ∧ (mode ≠ 1 → (blkN mode true E D q iv l).2.length = 16) ∧ blkN mode false E D q iv (blkN mode true E D q iv l).1 = (l.take (16 * q), (blkN mode true E D q iv l).2)
 | 0, iv, l, hi, _ => ⟨rfl, hi, by simp [blkN]⟩
 | q + 1, iv, l, hi, hl => by
  have hb : (l.take 16).length = 16 := by rw [List.length_take]; omega
  obtain ⟨h1, h2, h3⟩ := blkF_back mode E D hE hDE iv (l.take 16) hi hb
  obtain ⟨k1, k2, k3⟩ := blkN_back mode E D hE hDE q (blkF mode true E D iv (l.take 16)).2 (l.drop 16) h2 (by rw [List.length_drop]; omega)
  simp only [blkN]
  refine ⟨by rw [List.length_append, h1, k1]; omega, k2, ?_⟩
  rw [List.take_append_of_le_length (by omega), List.take_of_length_le (by omega), List.drop_append, List.drop_eq_nil_of_le (by omega), List.nil_append, h1, Nat.sub_self, List.drop_zero, h3]
  simp only
  rw [k3]
  simp only
  rw [show 16 * (q + 1) = 16 + 16 * q by omega, List.take_add]
theorem strip_pad (r : List UInt8) (h : r.length < 16) : stripF (r ++ List.replicate (16 - r.length) (UInt8.ofNat (16 - r.length))) = (r, 0) := by
 obtain ⟨n, hn⟩ : ∃ n, 16 - r.length = n := ⟨_, rfl⟩
 have h1 : 1 ≤ n ∧ n ≤ 16 := by omega
 have hz : (UInt8.ofNat n).toNat = n := by rw [UInt8.toNat_ofNat']; exact Nat.mod_eq_of_lt (by omega)
 have hg : (r ++ List.replicate n (UInt8.ofNat n)).getD 15 0 = UInt8.ofNat n := by
  rw [List.getD_eq_getElem?_getD, List.getElem?_append_right (by omega), List.getElem?_replicate_of_lt (by omega)]
  rfl
 rw [hn]
 unfold stripF
 rw [hg, hz, show 16 - n = r.length by omega, List.drop_left', if_pos ⟨h1.1, h1.2, rfl⟩, List.take_left']
 ·rfl
 ·rfl
theorem tagL_len (E : List UInt8 → List UInt8) (data out mask : List UInt8) (hm : mask.length = 16) : (tagL E data out mask).length = 16 := by
 unfold tagL
 exact xorL_lenLe _ _ 16 (by unfold gh; simp [wr16, bytes64]) (by rw [hm]; exact Nat.le_refl _)
theorem PS.j_len (s : PS) (h : parOk s.mode s.p) (hm : s.mode = 5) : s.j.length = 16 := by
 have h1 := s.c0_len h (.inr hm)
 unfold PS.c0 at h1
 rw [if_neg (by omega), stepL_len] at h1
 exact h1
theorem all_back (mode : Int) (k p b : List UInt8) (hb : mode = 1 ∨ mode = 2 → b.length % 16 = 0) : ((allF mode true k p b).2 ≠ 0 → mayF mode k p = (allF mode true k p b).2) ∧ ((allF mode true k p b).2 = 0 → allF mode false k p (allF mode true k p b).1 = (b, 0)) ∧ (allF mode true k p b).1.length ≤ b.length + 32 := by
 unfold allF mayF
 by_cases hmode : mode < 1 ∨ 5 < mode
 ·rw [if_pos hmode, if_pos hmode]
  exact ⟨fun _ => rfl, fun h => (by cases h), by simp⟩
 rw [if_neg hmode, if_neg hmode]
 by_cases hk : keyOk k
 case neg =>
  rw [if_pos hk, if_pos hk]
  exact ⟨fun _ => rfl, fun h => (by cases h), by simp⟩
 have hk' : ¬ ¬ keyOk k := fun h => h hk
 rw [if_neg hk', if_neg hk']
 by_cases hp : parOk mode.toNat p
 case neg =>
  rw [if_pos hp, if_pos hp]
  exact ⟨fun _ => rfl, fun h => (by cases h), by simp⟩
 have hp' : ¬ ¬ parOk mode.toNat p := fun h => h hp
 rw [if_neg hp', if_neg hp']
 obtain ⟨M, hM⟩ : ∃ M, mode.toNat = M := ⟨_, rfl⟩
 have hmi : mode = (M : Int) := by omega
 have hM5 : 1 ≤ M ∧ M ≤ 5 := by omega
 rw [hM] at hp
 have hp2 : ¬ ¬ parOk M p := fun h => h hp
 rw [hM, if_neg hmode, if_neg hk', if_neg hp2]
 have hks : (rks k).length = 16 * ((rks k).length / 16) := by have := rks_len k hk; omega
 have hR0 : 0 < (rks k).length / 16 := by have := rks_len k hk; omega
 obtain ⟨S, hS⟩ : ∃ S, PSof M true k p = S := ⟨_, rfl⟩
 obtain ⟨T, hT⟩ : ∃ T, PSof M false k p = T := ⟨_, rfl⟩
 have hE : ∀ l : List UInt8, l.length = 16 → (S.E l).length = 16 := fun l hl => by rw [← hS]; exact enc_ne _ _ l hl hks
 have hDE : ∀ l : List UInt8, l.length = 16 → S.D (S.E l) = l := fun l hl => by rw [← hS]; exact dec_of_enc _ _ l hks hR0 hl
 have hTE : T.E = S.E := by rw [← hS, ← hT]; rfl
 have hTD : T.D = S.D := by rw [← hS, ← hT]; rfl
 have sm : S.mode = M := by rw [← hS]; rfl
 have tm : T.mode = M := by rw [← hT]; rfl
 have se : S.enc = true := by rw [← hS]; rfl
 have te : T.enc = false := by rw [← hT]; rfl
 have sp : S.p = p := by rw [← hS]; rfl
 have tp : T.p = p := by rw [← hT]; rfl
 have hcn : ∀ l, T.cn l = S.cn l := fun l => by rw [← hS, ← hT]; rfl
 have hj : T.j = S.j := by rw [← hS, ← hT]; rfl
 have hda : T.data = S.data := by rw [← hS, ← hT]; rfl
 have hEn : ∀ l : List UInt8, l.length = 16 → S.E l ≠ [] := fun l hl h => by have := hE l hl; rw [h] at this; cases this
 rw [hS, hT]
 by_cases h4 : M = 4
 ·have hc0 := S.c0_len (by rw [sm, sp]; exact hp) (by rw [sm]; exact .inl h4)
  have f1 : S.fin b = ([], 0) := by unfold PS.fin; rw [sm, if_pos h4]
  have f2 : T.fin ((S.cn b).1) = ([], 0) := by unfold PS.fin; rw [tm, if_pos h4]
  have g1 : S.front b = (S.cn b).1 := by unfold PS.front; rw [sm, if_pos h4]
  have g2 : T.front (S.cn b).1 = b := by
   unfold PS.front
   rw [tm, if_pos h4, hcn]
   exact cnt1_twice S.E S.wd hEn b [] S.c0 hc0
  rw [f1, g1, if_pos rfl]
  refine ⟨fun h => absurd rfl h, fun _ => ?_, ?_⟩
  rotate_left
  ·have h1 := cnt1_le S.E S.wd b [] S.c0
   have h2 : (S.cn b).1.length ≤ b.length := h1
   simp only [List.append_nil]
   omega
  simp only [List.append_nil]
  rw [f2, g2, if_pos rfl, List.append_nil]
 by_cases h5 : M = 5
 ·have hpo : parOk S.mode S.p := by rw [sm, sp]; exact hp
  have hc0 := S.c0_len hpo (by rw [sm]; exact .inr h5)
  have hjl := S.j_len hpo (by rw [sm]; exact h5)
  have htl : (tagL S.E S.data (S.cn b).1 (S.E S.j)).length = 16 := tagL_len _ _ _ _ (hE _ hjl)
  obtain ⟨tg, htg⟩ : ∃ t, tagL S.E S.data (S.cn b).1 (S.E S.j) = t := ⟨_, rfl⟩
  have f1 : S.fin b = (tg, 0) := by unfold PS.fin; rw [sm, if_neg (by omega), if_pos h5, se, if_pos rfl, htg]
  have g1 : S.front b = (S.cn b).1 := by unfold PS.front; rw [sm, if_neg (by omega), if_pos h5, se, if_pos rfl]
  have g2 : T.front ((S.cn b).1 ++ tg) = [] := by unfold PS.front; rw [tm, if_neg (by omega), if_pos h5, te, if_neg (by decide)]
  have hln : ((S.cn b).1 ++ tg).length - 16 = (S.cn b).1.length := by rw [List.length_append, ← htg, htl]; omega
  have f2 : T.fin ((S.cn b).1 ++ tg) = (b, 0) := by
   unfold PS.fin
   rw [tm, if_neg (by omega), if_pos h5, te, if_neg (by decide)]
   unfold PS.open_
   rw [if_neg (by rw [List.length_append, ← htg, htl]; omega), hln, List.take_left', List.drop_left', hTE, hj, hda, if_pos htg, hcn]
   ·exact congrArg (·, (0 : Int)) (cnt1_twice S.E S.wd hEn b [] S.c0 hc0)
   ·rfl
   ·rfl
  rw [f1, g1, if_pos rfl]
  refine ⟨fun h => absurd rfl h, fun _ => ?_, ?_⟩
  rotate_left
  ·have h1 := cnt1_le S.E S.wd b [] S.c0
   have h2 : (S.cn b).1.length ≤ b.length := h1
   have h3 : tg.length = 16 := by rw [← htg]; exact htl
   simp only [List.length_append]
   omega
  simp only
  rw [f2, g2, if_pos rfl, List.nil_append]
 have hiv : M ≠ 1 → p.length = 16 := fun h1 => by
  unfold parOk at hp
  rw [if_neg h1, if_neg h4, if_neg h5] at hp
  exact hp
 have sk : S.keep = 0 := by unfold PS.keep; rw [if_neg (by rw [se]; simp)]
 obtain ⟨q, hq⟩ : ∃ q, b.length / 16 = q := ⟨_, rfl⟩
 have snb : S.nb b.length = q := by unfold PS.nb; rw [sk]; exact hq
 have g1 : S.front b = (blkN M true S.E S.D q p b).1 := by unfold PS.front PS.blk; rw [sm, if_neg h4, if_neg h5, snb, se, sp]
 obtain ⟨k1, k2, k3⟩ := blkN_back M S.E S.D hE hDE q p b hiv (by omega)
 by_cases h3 : M = 3
 ·obtain ⟨r, hr⟩ : ∃ r, b.drop (16 * q) = r := ⟨_, rfl⟩
  have hrl : r.length < 16 := by rw [← hr, List.length_drop]; omega
  obtain ⟨x, hx⟩ : ∃ x, r ++ List.replicate (16 - r.length) (UInt8.ofNat (16 - r.length)) = x := ⟨_, rfl⟩
  have hxl : x.length = 16 := by rw [← hx, List.length_append, List.length_replicate]; omega
  obtain ⟨j1, j2, j3⟩ := blkF_back M S.E S.D hE hDE (blkN M true S.E S.D q p b).2 x k2 hxl
  obtain ⟨o, ho⟩ : ∃ o, (blkF M true S.E S.D (blkN M true S.E S.D q p b).2 x).1 = o := ⟨_, rfl⟩
  have f1 : S.fin b = (o, 0) := by
   unfold PS.fin endB PS.blk
   rw [sm, if_neg h4, if_neg h5, if_pos h3, se, if_pos rfl, snb, hr, hx, sp, ho]
  rw [f1, g1, if_pos rfl]
  refine ⟨fun h => absurd rfl h, fun _ => ?_, ?_⟩
  rotate_left
  ·have h3 : o.length = 16 := by rw [← ho]; exact j1
   simp only [List.length_append]
   omega
  simp only
  obtain ⟨F, hF⟩ : ∃ F, (blkN M true S.E S.D q p b).1 = F := ⟨_, rfl⟩
  rw [hF] at k1 k3 ⊢
  rw [ho] at j1 j3
  have hcl : (F ++ o).length = 16 * q + 16 := by rw [List.length_append, k1, j1]
  have tk : T.keep = 1 := by unfold PS.keep; rw [if_pos ⟨by rw [tm]; exact h3, te⟩]
  have tnb : T.nb (F ++ o).length = q := by unfold PS.nb; rw [tk, hcl]; omega
  have tb : T.blk (F ++ o) = (b.take (16 * q), (blkN M true S.E S.D q p b).2) := by
   unfold PS.blk
   rw [tm, te, tnb, tp, hTE, hTD, blkN_front M false S.E S.D q p F o (by omega)]
   exact k3
  have g2 : T.front (F ++ o) = b.take (16 * q) := by unfold PS.front; rw [tm, if_neg h4, if_neg h5, tb]
  have hdr : (F ++ o).drop (16 * q) = o := List.drop_left' k1
  have f2 : T.fin (F ++ o) = (r, 0) := by
   unfold PS.fin endB
   rw [tm, if_neg h4, if_neg h5, if_pos h3, te, if_neg (by decide), tnb, hdr, if_pos j1, tb, hTE, hTD]
   simp only
   rw [j3]
   simp only
   rw [← hx]
   exact strip_pad r hrl
  rw [f2, g2, if_pos rfl, ← hr, List.take_append_drop]
 ·have hb0 : b.length % 16 = 0 := hb (by omega)
  have hdn : b.drop (16 * q) = [] := List.drop_eq_nil_of_le (by omega)
  have f1 : S.fin b = ([], 0) := by
   unfold PS.fin endB
   rw [sm, if_neg h4, if_neg h5, if_neg h3, snb, hdn, if_pos rfl]
  rw [f1, g1, if_pos rfl]
  refine ⟨fun h => absurd rfl h, fun _ => ?_, ?_⟩
  rotate_left
  ·simp only [List.append_nil]
   omega
  simp only [List.append_nil]
  obtain ⟨F, hF⟩ : ∃ F, (blkN M true S.E S.D q p b).1 = F := ⟨_, rfl⟩
  rw [hF] at k1 k3 ⊢
  have tk : T.keep = 0 := by unfold PS.keep; rw [if_neg (by rw [tm]; omega)]
  have tnb : T.nb F.length = q := by unfold PS.nb; rw [tk, k1]; omega
  have tb : T.blk F = (b.take (16 * q), (blkN M true S.E S.D q p b).2) := by
   unfold PS.blk
   rw [tm, te, tnb, tp, hTE, hTD]
   exact k3
  have g2 : T.front F = b := by unfold PS.front; rw [tm, if_neg h4, if_neg h5, tb]; exact List.take_of_length_le (by omega)
  have f2 : T.fin F = ([], 0) := by
   unfold PS.fin endB
   rw [tm, if_neg h4, if_neg h5, if_neg h3, tnb, List.drop_eq_nil_of_le (by omega), if_pos rfl]
  rw [f2, g2, if_pos rfl, List.append_nil]
theorem all_back5 (k p b : List UInt8) : ((allF 5 true k p b).2 = 0 → allF 5 false k p (allF 5 true k p b).1 = (b, 0)) ∧ (allF 5 true k p b).1.length ≤ b.length + 32 := by
 unfold allF
 rw [if_neg (by decide)]
 by_cases hk : keyOk k
 case neg =>
  rw [if_pos hk]
  exact ⟨fun h => (by cases h), by simp⟩
 have hk' : ¬ ¬ keyOk k := fun h => h hk
 rw [if_neg hk', if_neg hk']
 by_cases hp : parOk (5 : Int).toNat p
 case neg =>
  rw [if_pos hp]
  exact ⟨fun h => (by cases h), by simp⟩
 have hp' : ¬ ¬ parOk (5 : Int).toNat p := fun h => h hp
 rw [if_neg hp', if_neg hp']
 obtain ⟨M, hM⟩ : ∃ M, (5 : Int).toNat = M := ⟨_, rfl⟩
 have h5 : M = 5 := by rw [← hM]; rfl
 rw [hM] at hp
 have hp2 : ¬ ¬ parOk M p := fun h => h hp
 rw [hM]
 have hks : (rks k).length = 16 * ((rks k).length / 16) := by have := rks_len k hk; omega
 obtain ⟨S, hS⟩ : ∃ S, PSof M true k p = S := ⟨_, rfl⟩
 obtain ⟨T, hT⟩ : ∃ T, PSof M false k p = T := ⟨_, rfl⟩
 have hE : ∀ l : List UInt8, l.length = 16 → (S.E l).length = 16 := fun l hl => by rw [← hS]; exact enc_ne _ _ l hl hks
 have hTE : T.E = S.E := by rw [← hS, ← hT]; rfl
 have sm : S.mode = M := by rw [← hS]; rfl
 have tm : T.mode = M := by rw [← hT]; rfl
 have se : S.enc = true := by rw [← hS]; rfl
 have te : T.enc = false := by rw [← hT]; rfl
 have sp : S.p = p := by rw [← hS]; rfl
 have hcn : ∀ l, T.cn l = S.cn l := fun l => by rw [← hS, ← hT]; rfl
 have hj : T.j = S.j := by rw [← hS, ← hT]; rfl
 have hda : T.data = S.data := by rw [← hS, ← hT]; rfl
 have hEn : ∀ l : List UInt8, l.length = 16 → S.E l ≠ [] := fun l hl h => by have := hE l hl; rw [h] at this; cases this
 rw [hS, hT]
 have hpo : parOk S.mode S.p := by rw [sm, sp]; exact hp
 have hc0 := S.c0_len hpo (by rw [sm]; exact .inr h5)
 have hjl := S.j_len hpo (by rw [sm]; exact h5)
 have htl : (tagL S.E S.data (S.cn b).1 (S.E S.j)).length = 16 := tagL_len _ _ _ _ (hE _ hjl)
 obtain ⟨tg, htg⟩ : ∃ t, tagL S.E S.data (S.cn b).1 (S.E S.j) = t := ⟨_, rfl⟩
 have f1 : S.fin b = (tg, 0) := by unfold PS.fin; rw [sm, if_neg (by omega), if_pos h5, se, if_pos rfl, htg]
 have g1 : S.front b = (S.cn b).1 := by unfold PS.front; rw [sm, if_neg (by omega), if_pos h5, se, if_pos rfl]
 have g2 : T.front ((S.cn b).1 ++ tg) = [] := by unfold PS.front; rw [tm, if_neg (by omega), if_pos h5, te, if_neg (by decide)]
 have hln : ((S.cn b).1 ++ tg).length - 16 = (S.cn b).1.length := by rw [List.length_append, ← htg, htl]; omega
 have f2 : T.fin ((S.cn b).1 ++ tg) = (b, 0) := by
  unfold PS.fin
  rw [tm, if_neg (by omega), if_pos h5, te, if_neg (by decide)]
  unfold PS.open_
  rw [if_neg (by rw [List.length_append, ← htg, htl]; omega), hln, List.take_left', List.drop_left', hTE, hj, hda, if_pos htg, hcn]
  ·exact congrArg (·, (0 : Int)) (cnt1_twice S.E S.wd hEn b [] S.c0 hc0)
  ·rfl
  ·rfl
 rw [f1, g1, if_pos rfl]
 refine ⟨fun _ => ?_, ?_⟩
 rotate_left
 ·have h1 := cnt1_le S.E S.wd b [] S.c0
  have h2 : (S.cn b).1.length ≤ b.length := h1
  have h3 : tg.length = 16 := by rw [← htg]; exact htl
  simp only [List.length_append]
  omega
 simp only
 rw [f2, g2, if_pos rfl, List.nil_append]
 rfl
def dmid (k : Nat) (o l : List UInt8) : List UInt8 := l.take k ++ o.drop k
theorem dmid_all (o l : List UInt8) (n : Nat) (ho : o.length = n) (hl : l.length = n) : dmid n o l = l := by
 unfold dmid
 rw [← hl, List.take_length, List.drop_eq_nil_of_le (by omega), List.append_nil]
theorem dmid_zero (o l : List UInt8) : dmid 0 o l = o := by simp [dmid]
theorem dmid_len (k : Nat) (o l : List UInt8) (n : Nat) (ho : o.length = n) (hl : l.length = n) (hk : k ≤ n) : (dmid k o l).length = n := by
 unfold dmid
 rw [List.length_append, List.length_take, List.length_drop]
 omega
theorem dmid_set (k : Nat) (o l : List UInt8) (x : UInt8) (hx : o[k]? = some x) (hl : k < l.length) : (dmid (k + 1) o l).set k x = dmid k o l := by
 unfold dmid
 have hko : k < o.length := by
  rcases Nat.lt_or_ge k o.length with h | h
  ·exact h
  ·rw [List.getElem?_eq_none h] at hx; cases hx
 have e1 : l.take (k + 1) = l.take k ++ [l[k]] := by rw [List.take_add_one, List.getElem?_eq_getElem hl]; rfl
 have e2 : o.drop k = x :: o.drop (k + 1) := by
  rw [List.drop_eq_getElem_cons hko]
  have := hx
  rw [List.getElem?_eq_getElem hko] at this
  cases this
  rfl
 have hlk : (l.take k).length = k := by rw [List.length_take]; omega
 rw [e1, e2, List.append_assoc]
 rw [List.set_append_right _ _ (by omega), hlk, Nat.sub_self]
 rfl
theorem bytes64_at (n i : Nat) (h : i < 8) (hn : n < 18446744073709551616) : (bytes64 (UInt64.ofNat n))[i]? = some (UInt8.ofNat (n / 256 ^ (7 - i) % 256)) := by
 have ht : ∀ k : Nat, k ≤ 7 → (UInt64.ofNat n >>> UInt64.ofNat (8 * k)).toUInt8 = UInt8.ofNat (n / 256 ^ k % 256) := fun k hk => by
  apply UInt8.toNat_inj.1
  rw [UInt64.toNat_toUInt8, UInt64.toNat_shiftRight, UInt8.toNat_ofNat', UInt64.toNat_ofNat', UInt64.toNat_ofNat', Nat.shiftRight_eq_div_pow, show n % 2 ^ 64 = n by omega, show 8 * k % 2 ^ 64 % 64 = 8 * k by omega,
   show (2 : Nat) ^ (8 * k) = 256 ^ k by rw [Nat.pow_mul]]
  simp
 have h0 := ht 0 (by omega)
 have h1 := ht 1 (by omega)
 have h2 := ht 2 (by omega)
 have h3 := ht 3 (by omega)
 have h4 := ht 4 (by omega)
 have h5 := ht 5 (by omega)
 have h6 := ht 6 (by omega)
 have h7 := ht 7 (by omega)
 have hz : (UInt64.ofNat n).toUInt8 = UInt8.ofNat (n / 256 ^ 0 % 256) := by
  apply UInt8.toNat_inj.1
  rw [UInt64.toNat_toUInt8, UInt64.toNat_ofNat', UInt8.toNat_ofNat', Nat.mod_eq_of_lt (a := n) (by omega)]
  simp
 have : i = 0 ∨ i = 1 ∨ i = 2 ∨ i = 3 ∨ i = 4 ∨ i = 5 ∨ i = 6 ∨ i = 7 := by omega
 rcases this with rfl | rfl | rfl | rfl | rfl | rfl | rfl | rfl
 ·exact congrArg some h7
 ·exact congrArg some h6
 ·exact congrArg some h5
 ·exact congrArg some h4
 ·exact congrArg some h3
 ·exact congrArg some h2
 ·exact congrArg some h1
 ·exact congrArg some hz
set_option maxHeartbeats 1000000 in
theorem eight_any (n : Nat) (w : World) (hn : n ≤ 1000000000000) :
  Calls Tryz.prog 82 #[.int .i64 (n : Int)] w fun e w' => e = .returned (.slice (some ⟨w.heap.size, 0, none⟩) 8 8) ∧ Own w' w.heap.size (.slice (some ⟨w.heap.size, 0, none⟩) 8 8) (bytes64 (UInt64.ofNat n)) ∧ Old w w' := by
 obtain ⟨X, hX⟩ : ∃ X, w.heap.size = X := ⟨_, rfl⟩
 have hmk := Tryz.prog_make 8 (by omega) w
 obtain ⟨w1, hw1⟩ : ∃ w1, w.alloc (.cells (madeCells #[.int .u8 0] 8) 5) = w1 := ⟨_, rfl⟩
 have hO1 : Own w1 X (.slice (some ⟨X, 0, none⟩) 8 8) (zs 8) := by rw [← hw1, ← hX]; exact Own.made w 8 (by unfold maxLen; omega)
 have hB1 : Old w w1 := by rw [← hw1]; exact (Old.refl _).alloc _
 rw [hw1, hX, show ((8 : Nat) : Int) = 8 from rfl] at hmk
 have HH := Lib.hid (And.intro hO1 hB1)
 have HX := Lib.hid hX
 clear hO1 hB1 hw1
 rw [hX]
 clear hX
 obtain ⟨L, hL⟩ : ∃ L, bytes64 (UInt64.ofNat n) = L := ⟨_, rfl⟩
 have hat : ∀ i, i < 8 → L[i]? = some (UInt8.ofNat (n / 256 ^ (7 - i) % 256)) := fun i hi => by rw [← hL]; exact bytes64_at n i hi (by omega)
 have hLl : L.length = 8 := by rw [← hL]; rfl
 rw [hL]
 have HL := Lib.hid (And.intro hat hLl)
 clear hat hLl hL
 go_enter Tryz.func82, Tryz.ntmps82
 go_wp2_with fail
 clear hmk
 go_loopw [0, 4] (fun vn vi wr => ∃ k m : Nat, vn = .int .i64 (m : Int) ∧ vi = .int .i64 ((k : Int) - 1) ∧ k ≤ 8 ∧ m = n / 256 ^ (8 - k) ∧ Own wr X (.slice (some ⟨X, 0, none⟩) 8 8) (dmid k L (zs 8)) ∧ Old w wr) (fun _ vi _ => (intOf vi + 1).toNat)
 case atStart => exact ⟨8, n, rfl, rfl, by omega, by simp, by rw [dmid_all _ _ 8 HL.out.2 (zs_len 8)]; exact HH.out.1, HH.out.2⟩
 case round =>
  obtain ⟨k, m, rfl, rfl, hk, hm, hO, hB⟩ := hrel
  rcases k with _ | i
  ·have h0 : ¬ (((0 : Nat) : Int) - 1 ≥ 0) := by omega
   rw [dmid_zero] at hO
   have HX2 := Lib.hid (And.intro hO hB)
   clear hO hB hm
   go_wp2_with fail
   go_ret
   exact ⟨rfl, HX2.out.1, HX2.out.2⟩
  ·have e1 : (((i + 1 : Nat) : Int) - 1) = (i : Int) := by omega
   have hi : i < 8 := by omega
   have hi0 : (i : Int) ≥ 0 := by omega
   have hi8 : (i : Int) < 8 := by omega
   have hmn : m ≤ n := by rw [hm]; exact Nat.div_le_self _ _
   obtain ⟨q, hq⟩ : ∃ q, m % 256 = q := ⟨_, rfl⟩
   have hr1 : (m : Int) % 256 = (q : Int) := by omega
   have hr2 : Int.tmod (m : Int) 256 = (q : Int) := by rw [Int.tmod_eq_emod_of_nonneg (by omega)]; exact hr1
   have hcv := fun W : World => conv_i8 q (by omega) W
   obtain ⟨m2, hm2⟩ : ∃ m2, m / 256 = m2 := ⟨_, rfl⟩
   have hd1 : (m : Int) / 256 = (m2 : Int) := by omega
   have hd2 : Int.tdiv (m : Int) 256 = (m2 : Int) := by rw [Int.tdiv_eq_ediv_of_nonneg (by omega)]; exact hd1
   have hwi : IntKind.i64.wrap ((i : Int) - 1) = (i : Int) - 1 := IntWalk.i64_in _ (by omega)
   have hx : L[i]? = some (UInt8.ofNat q) := by
    rw [HL.out.1 i hi, ← hq, hm, show 8 - (i + 1) = 7 - i by omega]
   obtain ⟨z, hz⟩ : ∃ z, (dmid (i + 1) L (zs 8))[i]? = some z := ⟨_, List.getElem?_eq_getElem (by rw [dmid_len _ _ _ 8 HL.out.2 (zs_len 8) (by omega)]; exact hi)⟩
   have y2 := hO.cell i z hz
   have y3 := hO.frozen i
   have h1 := hO.set_ i (UInt8.ofNat q) hi
   rw [dmid_set i L (zs 8) _ hx (by rw [zs_len]; exact hi)] at h1
   have hT : Turn [X] wr (wr.setCell ⟨X, i, none⟩ (B (UInt8.ofNat q))) := (Turn.refl _ _).setCell (p := ⟨X, i, none⟩) (.inl (by simp)) _
   have hB2 : Old w (wr.setCell ⟨X, i, none⟩ (B (UInt8.ofNat q))) := below_turn hB hT (by simp; rw [HX.out]; exact Nat.le_refl _) hB.size
   have hm3 : m2 = n / 256 ^ (8 - i) := by rw [← hm2, hm, Nat.div_div_eq_div_mul, ← Nat.pow_succ, show (8 - (i + 1)).succ = 8 - i by omega]
   have HS := Lib.hid (And.intro h1 (And.intro hB2 hm3))
   rw [e1]
   clear hO hB hT hz hx h1 hB2 hm3 hm hk hq hm2 e1 hi
   go_wp2_with fail
   go_roundw
   case rel => exact ⟨i, m2, rfl, rfl, by omega, HS.out.2.2, HS.out.1, HS.out.2.1⟩
   case measure => simp [intOf]
def bitB (r : Nat) : UInt8 := UInt8.ofNat (2 ^ r)
theorem bit_lit (r : Nat) (h : r < 8) : Value.int .u8 (((2 : Int) ^ r) % 256) = B (bitB r) := by
 have : r = 0 ∨ r = 1 ∨ r = 2 ∨ r = 3 ∨ r = 4 ∨ r = 5 ∨ r = 6 ∨ r = 7 := by omega
 rcases this with rfl | rfl | rfl | rfl | rfl | rfl | rfl | rfl <;> rfl
def nxG : Nat → Nat → List UInt8 → List UInt8
 | 0, _, l => l
 | f + 1, i, l => if isN ((l.getD (15 - i / 8) 0 ^^^ bitB (i % 8)) &&& bitB (i % 8)) 0 = true then nxG f (i + 1) (l.set (15 - i / 8) (l.getD (15 - i / 8) 0 ^^^ bitB (i % 8)))
  else l.set (15 - i / 8) (l.getD (15 - i / 8) 0 ^^^ bitB (i % 8))
def byG : Nat → Nat → UInt8 → UInt8 × Bool
 | 0, _, x => (x, false)
 | f + 1, j, x => if isN ((x ^^^ bitB j) &&& bitB j) 0 = true then byG f (j + 1) (x ^^^ bitB j) else (x ^^^ bitB j, true)
theorem byG_all (n : Nat) (hn : n ≤ 8) (x : UInt8) : byG n 0 x = (nxB n x, !goB n x) := by
 have h : ∀ n : Fin 9, ∀ i : Fin 256, byG n.val 0 (UInt8.ofNat i.val) = (nxB n.val (UInt8.ofNat i.val), !goB n.val (UInt8.ofNat i.val)) := by decide +kernel
 have := h ⟨n, by omega⟩ ⟨x.toNat, x.toNat_lt⟩
 simpa using this
theorem set_getD (l : List UInt8) (k : Nat) : l.set k (l.getD k 0) = l := by
 by_cases h : k < l.length
 ·rw [List.getD_eq_getElem?_getD, List.getElem?_eq_getElem h]
  simp
 ·rw [List.set_eq_of_length_le (by omega)]
theorem byG_step (f j : Nat) (x : UInt8) : byG (f + 1) j x = if isN ((x ^^^ bitB j) &&& bitB j) 0 = true then byG f (j + 1) (x ^^^ bitB j) else (x ^^^ bitB j, true) := rfl
theorem nxG_succ (f m j : Nat) (l : List UInt8) (hj : j < 8) : nxG (f + 1) (8 * m + j) l = if isN ((l.getD (15 - m) 0 ^^^ bitB j) &&& bitB j) 0 = true then nxG f (8 * m + (j + 1)) (l.set (15 - m) (l.getD (15 - m) 0 ^^^ bitB j))
  else l.set (15 - m) (l.getD (15 - m) 0 ^^^ bitB j) := by
 have e1 : (8 * m + j) / 8 = m := by omega
 have e2 : (8 * m + j) % 8 = j := by omega
 show (if isN ((l.getD (15 - (8 * m + j) / 8) 0 ^^^ bitB ((8 * m + j) % 8)) &&& bitB ((8 * m + j) % 8)) 0 = true then _ else _) = _
 rw [e1, e2]
 rfl
theorem nxG_byte (m f2 : Nat) (hm : m < 16) : ∀ (f1 j : Nat) (l : List UInt8) (y : UInt8) (st : Bool), j + f1 ≤ 8 → l.length = 16 → byG f1 j (l.getD (15 - m) 0) = (y, st) →
  (st = true → nxG (f1 + f2) (8 * m + j) l = l.set (15 - m) y) ∧ (st = false → nxG (f1 + f2) (8 * m + j) l = nxG f2 (8 * m + j + f1) (l.set (15 - m) y))
 | 0, j, l, y, st, _, _, hb => by
  simp only [byG, Prod.mk.injEq] at hb
  obtain ⟨rfl, rfl⟩ := hb
  refine ⟨fun h => (by cases h), fun _ => ?_⟩
  rw [set_getD, Nat.zero_add]
  rfl
 | f1 + 1, j, l, y, st, hj, hl, hb => by
  rw [byG_step] at hb
  rw [show f1 + 1 + f2 = (f1 + f2) + 1 by omega, nxG_succ _ _ _ _ (by omega)]
  by_cases h : isN ((l.getD (15 - m) 0 ^^^ bitB j) &&& bitB j) 0 = true
  ·rw [if_pos h] at hb
   rw [if_pos h]
   have eg : (l.set (15 - m) (l.getD (15 - m) 0 ^^^ bitB j)).getD (15 - m) 0 = l.getD (15 - m) 0 ^^^ bitB j := by
    rw [List.getD_eq_getElem?_getD, List.getElem?_set_self (by omega)]
    rfl
   have ih := nxG_byte m f2 hm f1 (j + 1) (l.set (15 - m) (l.getD (15 - m) 0 ^^^ bitB j)) y st (by omega) (by simp [hl]) (by rw [eg]; exact hb)
   rw [List.set_set, show 8 * m + (j + 1) + f1 = 8 * m + j + (f1 + 1) by omega] at ih
   exact ih
  ·rw [if_neg h] at hb
   rw [if_neg h]
   simp only [Prod.mk.injEq] at hb
   obtain ⟨rfl, rfl⟩ := hb
   exact ⟨fun _ => rfl, fun h => (by cases h)⟩
theorem nxG_step : ∀ (k m left : Nat) (l : List UInt8), k + m = 16 → l.length = 16 → left ≤ 8 * k → nxG left (8 * m) l = stepF k left l
 | 0, m, left, l, _, _, h => by
  obtain rfl : left = 0 := by omega
  rfl
 | k + 1, m, left, l, hk, hl, h => by
  by_cases h0 : left = 0
  ·subst h0; simp [nxG, stepF]
  ·obtain ⟨n, hn⟩ : ∃ n, min left 8 = n := ⟨_, rfl⟩
   have hb := nxG_byte m (left - n) (by omega) n 0 l (nxB n (l.getD (15 - m) 0)) (!goB n (l.getD (15 - m) 0)) (by omega) hl (byG_all n (by omega) _)
   rw [show n + (left - n) = left by omega, Nat.add_zero, show 15 - m = k by omega] at hb
   show _ = (if left = 0 then l else if goB (min left 8) (l.getD k 0) = true then stepF k (left - min left 8) (l.set k (nxB (min left 8) (l.getD k 0))) else l.set k (nxB (min left 8) (l.getD k 0)))
   rw [if_neg h0, hn]
   by_cases hg : goB n (l.getD k 0) = true
   ·rw [hb.2 (by rw [hg]; rfl), if_pos hg]
    by_cases h8 : 8 ≤ left
    ·obtain rfl : n = 8 := by omega
     rw [show 8 * m + 8 = 8 * (m + 1) by omega]
     exact nxG_step k (m + 1) (left - 8) _ (by omega) (by simp [hl]) (by omega)
    ·rw [show left - n = 0 by omega]
     cases k <;> simp [nxG, stepF]
   ·rw [hb.1 (by rw [Bool.eq_false_iff.2 hg]; rfl), if_neg hg]
theorem nxG_L (wd : Nat) (h : wd ≤ 128) (l : List UInt8) (hl : l.length = 16) : nxG wd 0 l = stepL wd l := nxG_step 16 0 wd l rfl hl h
set_option maxHeartbeats 1000000 in
theorem rnext_any (A : Option Addr) (c wd : Nat) (l : List UInt8) (w : World) (h : Rd w A 16 c l) (hw : wd ≤ 128) :
  Calls Tryz.prog 80 #[.slice A 16 c, .int .i64 (wd : Int)] w fun e w' => ∃ g cc, e = .returned (.slice (some ⟨g, 0, none⟩) 16 cc) ∧ Own w' w.heap.size (.slice (some ⟨g, 0, none⟩) 16 cc) (stepL wd l) ∧ Old w w' := by
 have hl := h.1.symm
 obtain ⟨TG, hTG⟩ : ∃ T, stepL wd l = T := ⟨_, rfl⟩
 rw [hTG]
 have hst : nxG wd 0 l = TG := by rw [← hTG]; exact nxG_L wd hw l hl
 have HH := Lib.hid (And.intro h (And.intro hl hst))
 clear h hl hst hTG
 go_enter Tryz.func80, Tryz.ntmps80
 go_upto_region 2 with (at_builtin; refine wp_app2 (.const (.slice none 0 0)) (.tmp 9) w.heap.size (.slice none 0 0) [] (Own.nil _ _) (Nat.le_refl _) A 16 c l HH.out.1 (by have := HH.out.2.1; simp; omega) rfl rfl rfl rfl ?_; intro A2 n2 c2 w2 hn2 hG; have H2 := Lib.hid hG; clear hG)
 have hn2 : n2 = 16 := by have h1 := H2.out.len; rw [List.nil_append, HH.out.2.1] at h1; exact h1
 subst hn2
 obtain ⟨g, c3, e⟩ := H2.out.own.form (by intro e; injection e with _ e2 _; omega)
 injection e with e1 e2 e3
 subst e1 e3
 clear e2
 have hown : Own w2 w.heap.size (.slice (some ⟨g, 0, none⟩) 16 c2) l := by have := H2.out.own; rwa [List.nil_append] at this
 have hge : w.heap.size ≤ g := hown.addr_ge _ rfl
 have HO := Lib.hid (And.intro hown (And.intro hge H2.out.below))
 clear hown hge
 go_wp2_with fail
 go_loopw [6] (fun vi wr => ∃ (i f : Nat) (r : List UInt8), vi = .int .i64 (i : Int) ∧ i + f = wd ∧ r.length = 16 ∧ nxG f i r = TG ∧ Own wr w.heap.size (.slice (some ⟨g, 0, none⟩) 16 c2) r ∧ Old w wr) (fun vi _ => wd - (intOf vi).toNat)
 case atStart => exact ⟨0, wd, l, rfl, by omega, HH.out.2.1, HH.out.2.2, HO.out.1, HO.out.2.2⟩
 case round =>
  obtain ⟨i, f, r, rfl, hif, hr, hg, hO, hB⟩ := hrel
  by_cases hlt : i < wd
  ·have hlti : (i : Int) < wd := by omega
   have hltd : decide ((i : Int) < (wd : Int)) = true := decide_eq_true hlti
   obtain ⟨f', rfl⟩ : ∃ f', f = f' + 1 := ⟨f - 1, by omega⟩
   obtain ⟨q, hq⟩ : ∃ q, i / 8 = q := ⟨_, rfl⟩
   have hq1 : (i : Int) / 8 = (q : Int) := by omega
   have hq2 : Int.tdiv (i : Int) 8 = (q : Int) := by rw [Int.tdiv_eq_ediv_of_nonneg (by omega)]; exact hq1
   obtain ⟨k, hk⟩ : ∃ k, 15 - q = k := ⟨_, rfl⟩
   have hq15 : q ≤ 15 := by omega
   have hk1 : IntKind.i64.wrap (15 - (q : Int)) = (k : Int) := by rw [IntWalk.i64_in _ (by omega)]; omega
   have hk16 : (k : Int) < 16 := by omega
   obtain ⟨j, hj⟩ : ∃ j, i % 8 = j := ⟨_, rfl⟩
   have hj1 : (i : Int) % 8 = (j : Int) := by omega
   have hj2 : Int.tmod (i : Int) 8 = (j : Int) := by rw [Int.tmod_eq_emod_of_nonneg (by omega)]; exact hj1
   have hj8 : j < 8 := by omega
   have hbit := bit_lit j hj8
   have hwi : IntKind.i64.wrap ((i : Int) + 1) = ((i + 1 : Nat) : Int) := by rw [IntWalk.i64_in _ (by omega)]; omega
   obtain ⟨x, hx⟩ : ∃ x, r[k]? = some x := ⟨_, List.getElem?_eq_getElem (by omega)⟩
   have hxd : r.getD k 0 = x := getD_some hx
   simp only [nxG] at hg
   rw [hq, hk, hj, hxd] at hg
   have y0 := hO.cell k x hx
   have f0 := hO.frozen k
   obtain ⟨y, hy⟩ : ∃ y, x ^^^ bitB j = y := ⟨_, rfl⟩
   rw [hy] at hg
   have h1 := hO.set_ k y (by omega)
   have hT : Turn [g] wr (wr.setCell ⟨g, k, none⟩ (B y)) := (Turn.refl _ _).setCell (p := ⟨g, k, none⟩) (.inl (by simp)) _
   have hB2 : Old w (wr.setCell ⟨g, k, none⟩ (B y)) := below_turn hB hT (by simp; exact HO.out.2.1) hB.size
   have y1 := h1.cell k y (by rw [List.getElem?_set_self (by omega)])
   have hrl : (r.set k y).length = 16 := by simp [hr]
   cases hb : isN (y &&& bitB j) 0 with
   | true =>
    rw [if_pos hb] at hg
    have HS := Lib.hid (And.intro h1 (And.intro hB2 (And.intro hg (And.intro hrl hif))))
    clear hO hB hT h1 hB2 hg hrl hif hr hx hxd hq hk hj hq15 hj8
    go_wp2_with fail
    go_roundw
    case rel => exact ⟨i + 1, f', r.set k y, by first | rfl | (congr 1), by have := HS.out.2.2.2.2; omega, HS.out.2.2.2.1, HS.out.2.2.1, HS.out.1, HS.out.2.1⟩
    case measure => simp [intOf]; omega
   | false =>
    rw [if_neg (by rw [hb]; decide)] at hg
    have HS := Lib.hid (And.intro h1 (And.intro hB2 hg))
    clear hO hB hT h1 hB2 hg hrl hif hr hx hxd hq hk hj hq15 hj8
    go_wp2_with fail
    go_ret
    exact ⟨g, c2, rfl, by rw [← HS.out.2.2]; exact HS.out.1, HS.out.2.1⟩
  ·obtain rfl : f = 0 := by omega
   have hlti : ¬ (i : Int) < wd := by omega
   have hltd : decide ((i : Int) < (wd : Int)) = false := decide_eq_false hlti
   have hg' : r = TG := hg
   subst hg'
   have HX := Lib.hid (And.intro hO hB)
   clear hO hB hr hif hg
   go_wp2_with fail
   go_ret
   exact ⟨g, c2, rfl, HX.out.1, HX.out.2⟩
def REn (w0 : World) (c : Nat) (E D : List UInt8 → List UInt8) : Prop :=
 (∀ (W : World) (A : Option Addr) (ca : Nat) (l : List UInt8), Old w0 W → Rd W A 16 ca l → Calls Tryz.prog 48 #[.pointer (some ⟨c, 0, none⟩), .slice A 16 ca] W fun e w' => ∃ sb : Nat, e = .returned (.slice (some ⟨sb, 0, none⟩) 16 16) ∧ Rd w' (some ⟨sb, 0, none⟩) 16 16 (E l) ∧ Old W w' ∧ W.heap.size ≤ sb) ∧
 (∀ (W : World) (A : Option Addr) (ca : Nat) (l : List UInt8), Old w0 W → Rd W A 16 ca l → Calls Tryz.prog 47 #[.pointer (some ⟨c, 0, none⟩), .slice A 16 ca] W fun e w' => ∃ sb : Nat, e = .returned (.slice (some ⟨sb, 0, none⟩) 16 16) ∧ Rd w' (some ⟨sb, 0, none⟩) 16 16 (D l) ∧ Old W w' ∧ W.heap.size ≤ sb)
theorem REn.of {w : World} {c kb R cap g1 g2 : Nat} {ks : List UInt8} (h : RCip w c kb R cap g1 g2 ks) : REn w c (encL ks R) (decL ks R) := by
 refine ⟨fun W A ca l hO hr => ?_, fun W A ca l hO hr => ?_⟩
 ·refine (renc_any c kb R cap g1 g2 ks A ca l W (h.below hO) hr).mono ?_
  rintro e w' ⟨g, rfl, ho, hb⟩
  exact ⟨g, rfl, ho.rd, hb, ho.addr_ge _ rfl⟩
 ·refine (rdec_any c kb R cap g1 g2 ks A ca l W (h.below hO) hr).mono ?_
  rintro e w' ⟨g, rfl, ho, hb⟩
  exact ⟨g, rfl, ho.rd, hb, ho.addr_ge _ rfl⟩
theorem REn.below {w w' : World} {c : Nat} {E D : List UInt8 → List UInt8} (h : REn w c E D) (hb : Old w w') : REn w' c E D :=
 ⟨fun W A ca l hO hr => h.1 W A ca l (hb.trans hO) hr, fun W A ca l hO hr => h.2 W A ca l (hb.trans hO) hr⟩
structure CB (w : World) (enc : Bool) (E D : List UInt8 → List UInt8) (N : Nat) (TG : List UInt8) (wr : World) (A1 : Option Addr) (c1 : Nat) (vl : List UInt8) (A2 : Option Addr) (n2 c2 : Nat) (bl : List UInt8) (A3 : Option Addr) (n3 c3 : Nat) (ol : List UInt8) : Prop where
 iv : Rd wr A1 16 c1 vl
 b : Rd wr A2 n2 c2 bl
 bo : ∀ ad, A2 = some ad → ad.block < w.heap.size
 out : Own wr w.heap.size (.slice A3 n3 c3) ol
 io : ∀ ad, A1 = some ad → (Value.slice A3 n3 c3).ownBlock ≠ some ad.block
 len : ol.length + n2 ≤ N
 old : Old w wr
 tot : ol ++ (blkN 2 enc E D (n2 / 16) vl bl).1 = TG
theorem CB.next {w wr w1 w2 : World} {enc : Bool} {E D : List UInt8 → List UInt8} {N : Nat} {TG : List UInt8} {A1 A2 A3 A4 A5 A6 : Option Addr} {c1 n2 c2 n3 c3 c4 n5 c5 n6 c6 : Nat} {iv b out iv' : List UInt8} (h : CB w enc E D N TG wr A1 c1 iv A2 n2 c2 b A3 n3 c3 out) (hn : 16 ≤ n2)
  (hO : Old wr w1) (hG : Grew w.heap.size w1 w2 (.slice A3 n3 c3) A5 n5 c5 (out ++ (blkF 2 enc E D iv (b.take 16)).1)) (h16 : (blkF 2 enc E D iv (b.take 16)).1.length = 16) (hiv : Rd w1 A4 16 c4 iv') (hiv' : iv' = (blkF 2 enc E D iv (b.take 16)).2) (hiv2 : ∀ ad, A4 = some ad → wr.heap.size ≤ ad.block ∨ ad.block < w.heap.size)
  (hb : Rd wr A6 n6 c6 (b.drop 16)) (hn6 : n6 = n2 - 16) (hb2 : ∀ ad, A6 = some ad → ∃ a0, A2 = some a0 ∧ ad.block = a0.block) : CB w enc E D N TG w2 A4 c4 iv' A6 n6 c6 (b.drop 16) A5 n5 c5 (out ++ (blkF 2 enc E D iv (b.take 16)).1) := by
 have hT : Turn (Value.slice A3 n3 c3).ownBlock.toList w1 w2 := Turn.of_grown hG.grown
 have hno : ∀ ad, A4 = some ad → (Value.slice A3 n3 c3).ownBlock ≠ some ad.block := fun ad e e2 => by
  have h1 := h.out.lt e2
  rcases hiv2 ad e with h2 | h2 <;> omega
 have hbo : ∀ ad, A6 = some ad → ad.block < w.heap.size := fun ad e => by
  obtain ⟨a0, e1, e2⟩ := hb2 ad e
  rw [e2]; exact h.bo a0 e1
 refine ⟨hiv.turn hT (fun ad e hm => hno ad e (by simpa using hm)), (hb.below hO).turn hT (fun ad e hm => ?_), hbo, hG.own, fun ad e e2 => ?_, ?_, (h.old.trans hO).trans_below hG.below, ?_⟩
 ·have h1 := (h.out.lt (by simpa using hm)).1
  have := hbo ad e
  omega
 ·rcases hG.at_ with h1 | h1
  ·exact hno ad e (h1.symm.trans e2)
  ·rw [e2] at h1
   injection h1 with h1
   have := hiv.lt ad e
   omega
 ·have := h.len
  rw [List.length_append, h16]
  omega
 ·rw [← h.tot, show n2 / 16 = n6 / 16 + 1 by omega, hiv']
  simp only [blkN, List.append_assoc]
theorem cnt1_step (E : List UInt8 → List UInt8) (wd m : Nat) (b ctr : List UInt8) (hE : (E ctr).length = 16) (hm : m = min b.length 16) (hb : b ≠ []) : (cnt1 E wd b [] ctr).1 = xorL (b.take m) ((E ctr).take m) ++ (cnt1 E wd (b.drop m) [] (stepL wd ctr)).1 := by
 have h0 : E ctr ≠ [] := fun h => by rw [h] at hE; cases hE
 rw [cnt1_fill E wd b ctr hb h0, cnt1_part E wd _ m b (E ctr) (by omega) (by omega)]
 simp only
 congr 1
 by_cases h16 : b.length ≤ 16
 ·rw [List.drop_eq_nil_of_le (show b.length ≤ m by omega)]
  rfl
 ·rw [List.drop_eq_nil_of_le (show (E ctr).length ≤ m by omega)]
structure CtS (w : World) (E : List UInt8 → List UInt8) (wd N : Nat) (TG : List UInt8) (wr : World) (A1 : Option Addr) (c1 : Nat) (vl : List UInt8) (A2 : Option Addr) (n2 c2 : Nat) (bl : List UInt8) (A3 : Option Addr) (n3 c3 : Nat) (ol : List UInt8) : Prop where
 iv : Rd wr A1 16 c1 vl
 b : Rd wr A2 n2 c2 bl
 bo : ∀ ad, A2 = some ad → ad.block < w.heap.size
 out : Own wr w.heap.size (.slice A3 n3 c3) ol
 io : ∀ ad, A1 = some ad → (Value.slice A3 n3 c3).ownBlock ≠ some ad.block
 len : ol.length + n2 ≤ N
 old : Old w wr
 tot : ol ++ (cnt1 E wd bl [] vl).1 = TG
theorem CtS.next {w wr w1 w2 w3 : World} {E : List UInt8 → List UInt8} {wd N m : Nat} {TG : List UInt8} {A1 A2 A3 A5 A6 : Option Addr} {c1 n2 c2 n3 c3 n5 c5 n6 c6 g cc : Nat} {iv b out : List UInt8} (h : CtS w E wd N TG wr A1 c1 iv A2 n2 c2 b A3 n3 c3 out) (hE : (E iv).length = 16) (hm : m = min n2 16) (hn : 0 < n2)
  (hO : Old wr w1) (hG : Grew w.heap.size w1 w2 (.slice A3 n3 c3) A5 n5 c5 (out ++ xorL (b.take m) ((E iv).take m))) (hx : (xorL (b.take m) ((E iv).take m)).length = m)
  (hN : Own w3 w2.heap.size (.slice (some ⟨g, 0, none⟩) 16 cc) (stepL wd iv)) (hB : Old w2 w3)
  (hb : Rd wr A6 n6 c6 (b.drop m)) (hn6 : n6 = n2 - m) (hb2 : ∀ ad, A6 = some ad → ∃ a0, A2 = some a0 ∧ ad.block = a0.block) : CtS w E wd N TG w3 (some ⟨g, 0, none⟩) cc (stepL wd iv) A6 n6 c6 (b.drop m) A5 n5 c5 (out ++ xorL (b.take m) ((E iv).take m)) := by
 have hT : Turn (Value.slice A3 n3 c3).ownBlock.toList w1 w2 := Turn.of_grown hG.grown
 have hbo : ∀ ad, A6 = some ad → ad.block < w.heap.size := fun ad e => by
  obtain ⟨a0, e1, e2⟩ := hb2 ad e
  rw [e2]; exact h.bo a0 e1
 have hbl : b.length = n2 := h.b.1.symm
 refine ⟨hN.rd, ((hb.below hO).turn hT (fun ad e hm => ?_)).below hB, hbo, hG.own.below hB, fun ad e e2 => ?_, ?_, ((h.old.trans hO).trans_below hG.below).trans hB, ?_⟩
 ·have h1 := (h.out.lt (by simpa using hm)).1
  have := hbo ad e
  omega
 ·have h1 := (hG.own.lt e2).2
  have h2 := hN.addr_ge ad e
  omega
 ·have := h.len
  rw [List.length_append, hx]
  omega
 ·rw [← h.tot, cnt1_step E wd m b iv hE (by rw [hbl]; exact hm) (fun e => by rw [e] at hbl; simp at hbl; omega), List.append_assoc]
set_option maxHeartbeats 2000000 in
theorem rctr_any (c wd : Nat) (E D : List UInt8 → List UInt8) (A C : Option Addr) (ca n cb : Nat) (iv b : List UInt8) (w : World) (hE : REn w c E D) (hEl : ∀ l, l.length = 16 → (E l).length = 16) (hwd : wd ≤ 128) (hiv : Rd w A 16 ca iv) (hb : Rd w C n cb b) (hn : n ≤ 100000) :
  Calls Tryz.prog 51 #[.pointer (some ⟨c, 0, none⟩), .int .i64 (wd : Int), .slice A 16 ca, .slice C n cb] w fun e w' => ∃ A' n' c', e = .returned (.slice A' n' c') ∧ Own w' w.heap.size (.slice A' n' c') (cnt1 E wd b [] iv).1 ∧ Old w w' := by
 obtain ⟨TG, hTG⟩ : ∃ T, (cnt1 E wd b [] iv).1 = T := ⟨_, rfl⟩
 rw [hTG]
 have hst : CtS w E wd n TG w A ca iv C n cb b none 0 0 [] := ⟨hiv, hb, fun ad e => hb.lt ad e, Own.nil _ _, fun ad _ => by simp [Value.ownBlock], by simp, Old.refl _, by rw [List.nil_append]; exact hTG⟩
 have HH := Lib.hid (And.intro hst (And.intro hE (And.intro hEl hwd)))
 clear hst hE hTG hiv hb hEl hwd
 go_enter Tryz.func51, Tryz.ntmps51
 go_wp2_with fail
 go_loopw [2, 3, 9] (fun v1 v2 v3 wr => ∃ (A1 : Option Addr) (c1 : Nat) (iv : List UInt8) (A2 : Option Addr) (n2 c2 : Nat) (b : List UInt8) (A3 : Option Addr) (n3 c3 : Nat) (out : List UInt8), v1 = .slice A1 16 c1 ∧ v2 = .slice A2 n2 c2 ∧ v3 = .slice A3 n3 c3 ∧ CtS w E wd n TG wr A1 c1 iv A2 n2 c2 b A3 n3 c3 out) (fun _ v2 _ _ => sliceLen_q v2)
 case atStart => exact ⟨A, ca, iv, C, n, cb, b, none, 0, 0, [], rfl, rfl, rfl, HH.out.1⟩
 case round =>
  obtain ⟨A1, c1, iv1, A2, n2, c2, b2, A3, n3, c3, out, rfl, rfl, rfl, hI⟩ := hrel
  have hn2 : n2 ≤ 100000 := by have := hI.len; omega
  by_cases hlt : 0 < n2
  ·have hlti : (n2 : Int) > 0 := by omega
   have hltd : decide ((n2 : Int) > 0) = true := decide_eq_true hlti
   have hiv16 : iv1.length = 16 := hI.iv.1.symm
   by_cases h16 : 16 < n2
   ·have h16i : (n2 : Int) > 16 := by omega
    have h16d : decide ((n2 : Int) > 16) = true := decide_eq_true h16i
    obtain ⟨A6, n6, c6, hn6, hS6, hR6, hB6⟩ := hI.b.cut_ex2 (k := 16) (by omega)
    have hsl := slice_to A2 n2 c2 16 hI.b.spot (by have := hI.b.2.1; omega)
    rw [show ((16 : Nat) : Int) = 16 from rfl] at hS6 hsl
    have hrf := hI.b.front (k := 16) (by omega)
    have HI := Lib.hid (And.intro hI (And.intro hrf (And.intro hR6 (And.intro hB6 (And.intro hn6 (And.intro hlt (And.intro hiv16 h16)))))))
    have hmn : n2 ≤ 100000 := hn2
    clear hI hrf hR6 hB6 hn6 hlt hiv16
    go_upto_region 7 with (go_at_call 48; refine (HH.out.2.1.1 wr _ _ _ HI.out.1.old HI.out.1.iv).mono ?_; rintro e w5 ⟨sb, rfl, hR, hB, hsb⟩; have H5 := Lib.hid (And.intro hR hB); clear hR hB hsb)
    have hsk := slice_to (some ⟨sb, 0, none⟩) 16 16 16 (fun ad e => by cases e; rfl) (by have := HI.out.2.2.2.2.2.2.2; omega)
    rw [show ((16 : Nat) : Int) = 16 from rfl] at hsk
    have hm16 : 16 ≤ 16 := by have := HI.out.2.2.2.2.2.2.2; omega
    have HK := Lib.hid (And.intro hsl hsk)
    clear hsl hsk
    refine region_old (by kernel_rfl) (fun wd hHeld hSz => ?_)
    have HSz := Lib.hid hSz
    clear hSz
    have hOd := hHeld
    refine tkS 0 hHeld ?_
    refine tkS 1 hHeld ?_
    refine tkS 2 hHeld ?_ (hy := by intro wq hSw; have hRun := HK.out.1 wq; clear hSw; go_simp; try with_reducible rfl)
    refine tkS 3 hHeld ?_
    refine tkS 4 hHeld ?_
    refine tkS 5 hHeld ?_ (hy := by intro wq hSw; have hRun := HK.out.2 wq; clear hSw; go_simp; try with_reducible rfl)
    refine rdL 6 (fun K hK => ?_)
    go_simp
    obtain ⟨wd6, hwd6⟩ : ∃ x, x = wd := ⟨_, rfl⟩
    subst hwd6
    refine (rxorn_any A2 (some ⟨sb, 0, none⟩) 16 c2 16 16 _ _ wd6 ((HI.out.2.1.below H5.out.2).below hOd) ((H5.out.1.front (k := 16) (by omega)).below hOd) (Nat.le_refl _) (by omega)).mono ?_
    rintro e w6 ⟨rfl, hO6, hB6⟩
    refine hK.out _ _ (Old.trans hHeld hB6) (fun hHeld => ?_)
    clear hK K
    try simp only [Act.put, sA, sB, sC]
    refine tkS 7 hHeld ?_
    refine wpAnyH_done (by kernel_rfl) ?_ _
    refine NoPanic.normal ?_
    have H6 := Lib.hid (And.intro hO6.rd (And.intro (Old.trans H5.out.2 (Old.trans hOd hB6)) hO6.len))
    clear hO6 hB6 hOd hHeld
    try simp only [Exit.then]
    try go_at_K
    go_wp2_with (first | (at_builtin; refine wp_app2 (.tmp 30) (.tmp 31) w.heap.size (.slice A3 n3 c3) out (HI.out.1.out.below H6.out.2.1) (Nat.le_trans HI.out.1.old.size H6.out.2.1.size) (some ⟨wd6.heap.size, 0, none⟩) 16 16 _ H6.out.1 (by have h1 := H6.out.2.2; have := HI.out.1.len; omega) rfl rfl rfl rfl ?_; intro A7 n7 c7 w7 hn7 hG; have H7 := Lib.hid hG; clear hG) | (go_at_call 80; refine (rnext_any A1 c1 wd iv1 w7 ((HI.out.1.iv.below H6.out.2.1).turn (Turn.of_grown H7.out.grown) (fun ad e hm => HI.out.1.io ad e (by simpa using hm))) HH.out.2.2.2).mono ?_; rintro e w8 ⟨g8, cc8, rfl, hO8, hB8⟩; have H8 := Lib.hid (And.intro hO8 hB8); clear hO8 hB8))
    have hnx := HI.out.1.next (m := 16) (HH.out.2.2.1 iv1 HI.out.2.2.2.2.2.2.1) (by have := HI.out.2.2.2.2.2.2.2; omega) HI.out.2.2.2.2.2.1 H6.out.2.1 H7.out H6.out.2.2.symm H8.out.1 H8.out.2 HI.out.2.2.1 HI.out.2.2.2.2.1 HI.out.2.2.2.1
    have HN := Lib.hid hnx
    clear hnx
    go_roundw
    case rel => exact ⟨_, _, _, _, _, _, _, _, _, _, _, rfl, rfl, rfl, HN.out⟩
    case measure => have := HI.out.2.2.2.2.1; have := HI.out.2.2.2.2.2.1; have := HI.out.2.2.2.2.2.2.2; simp [sliceLen_q]; omega
   ·have h16i : ¬ (n2 : Int) > 16 := by omega
    have h16d : decide ((n2 : Int) > 16) = false := decide_eq_false h16i
    obtain ⟨A6, n6, c6, hn6, hS6, hR6, hB6⟩ := hI.b.cut_ex2 (k := n2) (by omega)
    have hsl := slice_to A2 n2 c2 n2 hI.b.spot (by have := hI.b.2.1; omega)
    skip
    have hrf := hI.b.front (k := n2) (by omega)
    have HI := Lib.hid (And.intro hI (And.intro hrf (And.intro hR6 (And.intro hB6 (And.intro hn6 (And.intro hlt (And.intro hiv16 h16)))))))
    have hmn : n2 ≤ 100000 := hn2
    clear hI hrf hR6 hB6 hn6 hlt hiv16
    go_upto_region 7 with (go_at_call 48; refine (HH.out.2.1.1 wr _ _ _ HI.out.1.old HI.out.1.iv).mono ?_; rintro e w5 ⟨sb, rfl, hR, hB, hsb⟩; have H5 := Lib.hid (And.intro hR hB); clear hR hB hsb)
    have hsk := slice_to (some ⟨sb, 0, none⟩) 16 16 n2 (fun ad e => by cases e; rfl) (by have := HI.out.2.2.2.2.2.2.2; omega)
    skip
    have hm16 : n2 ≤ 16 := by have := HI.out.2.2.2.2.2.2.2; omega
    have HK := Lib.hid (And.intro hsl hsk)
    clear hsl hsk
    refine region_old (by kernel_rfl) (fun wd hHeld hSz => ?_)
    have HSz := Lib.hid hSz
    clear hSz
    have hOd := hHeld
    refine tkS 0 hHeld ?_
    refine tkS 1 hHeld ?_
    refine tkS 2 hHeld ?_ (hy := by intro wq hSw; have hRun := HK.out.1 wq; clear hSw; go_simp; try with_reducible rfl)
    refine tkS 3 hHeld ?_
    refine tkS 4 hHeld ?_
    refine tkS 5 hHeld ?_ (hy := by intro wq hSw; have hRun := HK.out.2 wq; clear hSw; go_simp; try with_reducible rfl)
    refine rdL 6 (fun K hK => ?_)
    go_simp
    obtain ⟨wd6, hwd6⟩ : ∃ x, x = wd := ⟨_, rfl⟩
    subst hwd6
    refine (rxorn_any A2 (some ⟨sb, 0, none⟩) n2 c2 n2 16 _ _ wd6 ((HI.out.2.1.below H5.out.2).below hOd) ((H5.out.1.front (k := n2) (by omega)).below hOd) (Nat.le_refl _) (by omega)).mono ?_
    rintro e w6 ⟨rfl, hO6, hB6⟩
    refine hK.out _ _ (Old.trans hHeld hB6) (fun hHeld => ?_)
    clear hK K
    try simp only [Act.put, sA, sB, sC]
    refine tkS 7 hHeld ?_
    refine wpAnyH_done (by kernel_rfl) ?_ _
    refine NoPanic.normal ?_
    have H6 := Lib.hid (And.intro hO6.rd (And.intro (Old.trans H5.out.2 (Old.trans hOd hB6)) hO6.len))
    clear hO6 hB6 hOd hHeld
    try simp only [Exit.then]
    try go_at_K
    go_wp2_with (first | (at_builtin; refine wp_app2 (.tmp 30) (.tmp 31) w.heap.size (.slice A3 n3 c3) out (HI.out.1.out.below H6.out.2.1) (Nat.le_trans HI.out.1.old.size H6.out.2.1.size) (some ⟨wd6.heap.size, 0, none⟩) n2 n2 _ H6.out.1 (by have h1 := H6.out.2.2; have := HI.out.1.len; omega) rfl rfl rfl rfl ?_; intro A7 n7 c7 w7 hn7 hG; have H7 := Lib.hid hG; clear hG) | (go_at_call 80; refine (rnext_any A1 c1 wd iv1 w7 ((HI.out.1.iv.below H6.out.2.1).turn (Turn.of_grown H7.out.grown) (fun ad e hm => HI.out.1.io ad e (by simpa using hm))) HH.out.2.2.2).mono ?_; rintro e w8 ⟨g8, cc8, rfl, hO8, hB8⟩; have H8 := Lib.hid (And.intro hO8 hB8); clear hO8 hB8))
    have hnx := HI.out.1.next (m := n2) (HH.out.2.2.1 iv1 HI.out.2.2.2.2.2.2.1) (by have := HI.out.2.2.2.2.2.2.2; omega) HI.out.2.2.2.2.2.1 H6.out.2.1 H7.out H6.out.2.2.symm H8.out.1 H8.out.2 HI.out.2.2.1 HI.out.2.2.2.2.1 HI.out.2.2.2.1
    have HN := Lib.hid hnx
    clear hnx
    go_roundw
    case rel => exact ⟨_, _, _, _, _, _, _, _, _, _, _, rfl, rfl, rfl, HN.out⟩
    case measure => have := HI.out.2.2.2.2.1; have := HI.out.2.2.2.2.2.1; have := HI.out.2.2.2.2.2.2.2; simp [sliceLen_q]; omega
  ·obtain rfl : n2 = 0 := by omega
   have hlti : ¬ ((0 : Nat) : Int) > 0 := by omega
   have ht := hI.tot
   obtain rfl : b2 = [] := List.length_eq_zero_iff.1 hI.b.1.symm
   simp only [cnt1, List.append_nil] at ht
   have HI := Lib.hid (And.intro hI ht)
   clear hI ht hlt
   go_wp2_with fail
   go_ret
   exact ⟨A3, n3, c3, rfl, by rw [← HI.out.2]; exact HI.out.1.out, HI.out.1.old⟩
attribute [local go_sem] addI_B
end Go.Proofs.YtgjnmpjimhbfgaaGreatDoor
namespace Go.Proofs.YtgjnmpjimhbfgaaGreatDoor
set_option maxRecDepth 100000
open Go.RowKit
end Go.Proofs.YtgjnmpjimhbfgaaGreatDoor
