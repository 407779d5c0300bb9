/-
  objstore: the blocks of a volume that are other ones: puts.
-/
import Derived.Test.YtgjnmpjimhbfgaaGreatDoorZzSm5
import Derived.Test.YtgjnmpjimhbfgaaGreatDoorZzFs30
import Derived.Test.YtgjnmpjimhbfgaaGreatDoorZzEqB
namespace Go.Proofs.YtgjnmpjimhbfgaaGreatDoor
set_option maxRecDepth 100000
open Go.RowKit
theorem splice_zs (n : Nat) (t : List UInt8) : splice (zs n) 0 t = t ++ zs (n - t.length) := by
 unfold splice zs
 simp [List.drop_replicate]
theorem splice_pg (b : List UInt8) (i : Nat) : splice (zs 256) 0 ((b.drop (256 * i)).take 256) = pg b i := by
 rw [splice_zs]
 rfl
structure Mnq (w : World) (d L v B n : Nat) (s : Dsk) (S : Nat) (ms : List (List UInt8)) : Prop where
 D : DkAt w d L s
 V : VolB w v d B n false
 G : Good headB s n ms
 sn : s.n = S
theorem Mnt.q {w : World} {d L v B n S : Nat} {s : Dsk} {ms : List (List UInt8)} (h : Mnt w d L v B n s S ms) : Mnq w d L v B n s S ms := ⟨h.D, h.V, h.G, h.sn⟩
theorem Mnq.below {w w' : World} {d L v B n S : Nat} {s : Dsk} {ms : List (List UInt8)} (h : Mnq w d L v B n s S ms) (hb : Old w w') : Mnq w' d L v B n s S ms := ⟨h.D.below hb, Blk.below h.V hb, h.G, h.sn⟩
theorem Mnq.read {w : World} {d L v B n S : Nat} {s : Dsk} {ms : List (List UInt8)} (h : Mnq w d L v B n s S ms) (hB : (S - 8) / 2 = B) (hn : n ≤ 100) (i : Nat) (hi : i < B) :
  Calls Tryz.prog 38 #[.pointer (some ⟨v, 0, none⟩), .int .i64 (i : Int)] w fun e w' =>
   ∃ g c', e = .returned (.slice (some ⟨g, 0, none⟩) 256 c') ∧ Own w' w.heap.size (.slice (some ⟨g, 0, none⟩) 256 c') (rowB ms i) ∧ Old w w' := by
 have hsB : (s.n - 8) / 2 = B := by rw [h.sn, hB]
 have h60 := h.G.n60
 have hsd := side_in (n := s.n) (c := n) h.G.n16
 rw [hsB] at hsd
 refine (volread_any v d L B n false s w h.V h.D (by omega) (by omega) hsd i hi).mono ?_
 rintro e w' ⟨g, c', rfl, h1, _, h2⟩
 obtain ⟨b, hb⟩ : ∃ b, ms[i]? = some b := ⟨_, List.getElem?_eq_getElem (by rw [h.G.len, hsB]; exact hi)⟩
 have h3 := (h.G.side i b hb).1
 rw [hsB] at h3
 rw [h3] at h1
 refine ⟨g, c', rfl, ?_, h2⟩
 unfold rowB
 rw [hb]
 exact h1
theorem PutsOwn.snoc {w w' : World} {base : Nat} {A A' : Option Addr} {n c n' c' : Nat} {ps : List PutV} {p : PutV} {o : Obj} (h : PutsOwn w base (.slice A n c) ps) (_hb : base ≤ w.heap.size) (hp : Own w base (.slice p.A p.n p.c) p.l)
  (hG : GrewE Tryz.eP base (w.alloc o) w' (.slice A n c) A' n' c' (ps ++ [p])) : PutsOwn w' base (.slice A' n' c') (ps ++ [p]) := by
 have hown : ∀ q : PutV, Own w base (.slice q.A q.n q.c) q.l → Own w' base (.slice q.A q.n q.c) q.l := fun q hq => by
  have hq2 := hq.below ((Old.refl w).alloc o)
  refine hq2.keep fun g' hg' => ?_
  refine hG.grown.block g' (hq2.lt hg').2 (fun e => ?_)
  obtain ⟨cs, hbk⟩ := OwnE.blk (h.1.below ((Old.refl w).alloc o)) (g := g') e.symm
  exact hq2.ne hbk (by decide) hg'
 refine ⟨hG.own, fun r hr => ?_⟩
 rcases List.mem_append.1 hr with hr | hr
 ·exact hown r (h.2 r hr)
 ·rw [List.mem_singleton] at hr
  subst hr
  exact hown _ hp
structure PuI (w wl : World) (ms : List (List UInt8)) (b : List UInt8) (k : Nat) (A : Option Addr) (n c : Nat) (ps : List PutV) : Prop where
 own : PutsOwn wl w.heap.size (.slice A n c) ps
 is : ps.map toPut = putsP ms b k
 nn : ∀ p ∈ ps, 0 ≤ p.blk
 old : Old w wl
def PutsRes (w : World) (ms : List (List UInt8)) (b : List UInt8) (K : Nat) (e : Ending) (w' : World) : Prop := ∃ A' n' c' ps, e = .returned (.slice A' n' c') ∧ PuI w w' ms b K A' n' c' ps
theorem PuI.snoc {w wr w6 w9 : World} {ms : List (List UInt8)} {b : List UInt8} {k n4 c4 n9 c9 X : Nat} {A4 A9 : Option Addr} {ps : List PutV} {o : Obj} (h : PuI w wr ms b k A4 n4 c4 ps) (hO : Old wr w6) (hX : wr.heap.size = X) (hp : Own w6 X (.slice (some ⟨X, 0, none⟩) 256 256) (pg b k))
  (hq : k = 0 ∨ pg b k ≠ (ms[k]?).getD []) (hG : GrewE Tryz.eP w.heap.size (w6.alloc o) w9 (.slice A4 n4 c4) A9 n9 c9 (ps ++ [⟨(k : Int), some ⟨X, 0, none⟩, 256, 256, pg b k⟩])) :
  PuI w w9 ms b (k + 1) A9 n9 c9 (ps ++ [⟨(k : Int), some ⟨X, 0, none⟩, 256, 256, pg b k⟩]) := by
 have hO6 := Old.trans h.old hO
 refine ⟨PutsOwn.snoc (h.own.below hO) hO6.size (hp.mono (by rw [← hX]; exact h.old.size)) hG, ?_, fun p hp => ?_, Below.trans (hO6.alloc _) hG.below⟩
 ·rw [List.map_append, h.is, putsP_succ, if_pos hq]
  rfl
 ·rcases List.mem_append.1 hp with hp | hp
  ·exact h.nn p hp
  ·rw [List.mem_singleton] at hp
   subst hp
   simp
theorem PuI.same {w wr w6 : World} {ms : List (List UInt8)} {b : List UInt8} {k n4 c4 : Nat} {A4 : Option Addr} {ps : List PutV} (h : PuI w wr ms b k A4 n4 c4 ps) (hO : Old wr w6) (h0 : k ≠ 0) (hq : pg b k = (ms[k]?).getD []) : PuI w w6 ms b (k + 1) A4 n4 c4 ps :=
 ⟨h.own.below hO, by rw [h.is, putsP_succ, if_neg (fun h => h.elim h0 (fun h => h hq)), List.append_nil], h.nn, Old.trans h.old hO⟩
theorem PuI.few {w wr : World} {ms : List (List UInt8)} {b : List UInt8} {k n4 c4 : Nat} {A4 : Option Addr} {ps : List PutV} (h : PuI w wr ms b k A4 n4 c4 ps) : ps.length ≤ k := by
 have := putsP_len ms b k
 rw [← h.is, List.length_map] at this
 exact this
set_option maxHeartbeats 4000000 in
theorem stputs_any {w : World} {d L v B n S : Nat} {s : Dsk} {ms : List (List UInt8)} (h : Mnq w d L v B n s S ms) (hB : (S - 8) / 2 = B) (hn : n ≤ 100) (A : Option Addr) (m c : Nat) (b : List UInt8) (hr : Rd w A m c b) (hm : m ≤ 256 * B) (hB2 : B ≤ 1000) :
  Calls Tryz.prog 35 #[.pointer (some ⟨v, 0, none⟩), .slice A m c] w (PutsRes w ms b (pageN b)) := by
 have hmb := hr.1
 obtain ⟨K, hK⟩ : ∃ K, pageN b = K := ⟨_, rfl⟩
 have hKm : 256 * K < m + 256 ∧ m ≤ 256 * K := by unfold pageN at hK; omega
 have HV := Lib.hid (And.intro h (And.intro hr (And.intro hK (And.intro hB (And.intro hn (And.intro hmb (And.intro hm hB2)))))))
 have HK := Lib.hid hKm
 have hm2 : m ≤ 256000 := by omega
 have Hm2 := Lib.hid hm2
 rw [hK]
 clear h hr hK hB hn hmb hm hKm hm2 hB2
 have hmk := fun w => Tryz.prog_make 256 (by decide) w
 rw [show ((256 : Nat) : Int) = 256 from rfl] at hmk
 go_enter Tryz.func35, Tryz.ntmps35
 go_wp2_with fail
 go_loopw [5, 6] (fun lv iv wl => ∃ (k : Nat) (A4 : Option Addr) (n4 c4 : Nat) (ps : List PutV), k ≤ K ∧ iv = .int .i64 (k : Int) ∧ lv = .slice A4 n4 c4 ∧ PuI w wl ms b k A4 n4 c4 ps) (fun _ iv _ => K - (intOf iv).toNat)
 case atStart => exact ⟨0, none, 0, 0, [], Nat.zero_le _, rfl, rfl, ⟨OwnE.nil _ _, by simp⟩, rfl, by simp, Old.refl _⟩
 case round =>
  obtain ⟨k, A4, n4, c4, ps, hk, rfl, rfl, hI⟩ := hrel
  have HI := Lib.hid hI
  clear hI
  by_cases hlt : k < K
  ·have hk1 : (k : Int) * 256 < (m : Int) := by have := HK.out; omega
   have hkm : 256 * k ≤ m := by omega
   have hk2 : (k : Int) * 256 = ((256 * k : Nat) : Int) := by omega
   have hk3 : (k : Int) + 1 ≤ 100000 := by have := HK.out; have := Hm2.out; omega
   have hk4 : k ≤ 1000 := by have := HK.out; have := Hm2.out; omega
   obtain ⟨B5, n5, c5, hn5, hsl5, hR5⟩ := HV.out.2.1.cut_ex (k := 256 * k) hkm
   obtain ⟨w5, hw5⟩ : ∃ w5, wr.alloc (.cells (madeCells #[.int .u8 0] 256) 5) = w5 := ⟨_, rfl⟩
   have hO5 : Own w5 wr.heap.size (.slice (some ⟨wr.heap.size, 0, none⟩) 256 256) (zs 256) := by rw [← hw5]; exact Own.made wr 256 (by unfold maxLen; omega)
   have hb5 : Old wr w5 := by rw [← hw5]; exact (Old.refl _).alloc _
   obtain ⟨X, hX⟩ : ∃ X, wr.heap.size = X := ⟨_, rfl⟩
   rw [hX] at hO5
   obtain ⟨q, hq⟩ : ∃ q, 256 * k = q := ⟨_, rfl⟩
   rw [hq] at hk2 hsl5 hR5
   have hqb : (q : Int) ≤ 256000 := by have := Hm2.out; omega
   have HX := Lib.hid (And.intro hO5 (And.intro hb5 (And.intro hX (And.intro hR5 (And.intro hq hn5)))))
   have Hs := Lib.hid (And.intro hkm (And.intro hk3 hk4))
   clear hkm hk3 hk4 hO5 hb5 hR5 hq hn5
   go_upto_region 6 with fail
   try rw [hX]
   go_upto_region 7 with (refine wp_copyR rfl (.tmp 16) (.tmp 20) rfl X X 256 256 0 256 256 (zs 256) HX.out.1 rfl (by rw [zs_len]; omega) B5 n5 c5 _ rfl ((HX.out.2.2.2.1.below HI.out.old).below HX.out.2.1) ?_; intro w6 hO6 hG6; have H6 := Lib.hid (And.intro hO6 hG6); clear hO6 hG6)
   have hO6 : Old wr w6 := by
    refine Below.trans HX.out.2.1 ⟨H6.out.2.os, H6.out.2.tape, H6.out.2.output, H6.out.2.size, fun j hj => H6.out.2.block j (by have := HX.out.2.1.size; omega) (fun e => ?_)⟩
    injection e with e
    have := HX.out.2.2.1
    omega
   have hpg : splice (zs 256) 0 ((b.drop q).take 256) = pg b k := by rw [← HX.out.2.2.2.2.1]; exact splice_pg b k
   have hP6 := H6.out.1
   rw [hpg] at hP6
   have HQ := Lib.hid (And.intro hO6 (And.intro hP6 (And.intro (Old.trans HI.out.old hO6) HI.out.few)))
   clear hO6 hpg hP6 hsl5 hqb hk2
   by_cases hz : k = 0
   ·have hzi : ((k : Int) == 0) = true := by rw [hz]; rfl
    have Hz := Lib.hid (And.intro hz hk1)
    clear hz hk1
    go_wp2_with (at_builtin; go_must (refine wp_appE Tryz.eP (.tmp 32) (.tmp 36) w.heap.size (.slice A4 n4 c4) ps ((HI.out.own.1.below HQ.out.1).below ((Old.refl w6).alloc _)) (by have := HQ.out.2.2.1.size; simp; omega) (some ⟨w6.heap.size, 0, none⟩) 1 1 [⟨(k : Int), some ⟨X, 0, none⟩, 256, 256, pg b k⟩] (Blk.rdC Tryz.eP (Blk.new _ _ _) rfl) (fun h => by cases h) (by have := HQ.out.2.2.2; have := Hs.out; simp; omega) rfl rfl rfl rfl ?_); intro A9 n9 c9 w9 hG; have H9 := Lib.hid hG; clear hG)
    rw [IntWalk.wrap64_in ((k : Int) + 1) (by have := Hs.out.2; omega)]
    exact ⟨⟨k + 1, A9, n9, c9, _, by omega, by simp, rfl, HI.out.snoc HQ.out.1 HX.out.2.2.1 HQ.out.2.1 (.inl Hz.out.1) H9.out⟩, by simp [intOf]; omega⟩
   ·have hzi : ((k : Int) == 0) = false := by simp; exact hz
    have hrd := Mnq.read ((HV.out.1.below HI.out.old).below HQ.out.1) HV.out.2.2.2.1 HV.out.2.2.2.2.1 k (by have h1 := HV.out.2.2.2.2.2.2.1; have h2 := HK.out; omega)
    have Hz := Lib.hid (And.intro hz hk1)
    clear hz hk1
    by_cases he : pg b k = rowB ms k
    ·have He := Lib.hid he
     clear he
     go_wp2_with (first
      | (go_at_call 38; refine hrd.mono ?_; rintro e w7 ⟨g7, c7, rfl, hO7, hb7⟩; have H7 := Lib.hid (And.intro hO7 (And.intro hb7 (And.intro (HQ.out.2.1.below hb7) (And.intro (Old.trans HQ.out.1 hb7) (Old.trans HQ.out.2.2.1 hb7))))); clear hO7 hb7)
      | (go_at_call 66; refine (equalB_any _ _ _ _ _ _ _ _ _ H7.out.2.2.1.rd H7.out.1.rd).mono ?_; rintro e w' ⟨rfl, rfl⟩; rw [decide_eq_true He.out]))
     rw [IntWalk.wrap64_in ((k : Int) + 1) (by have := Hs.out.2; omega)]
     exact ⟨⟨k + 1, A4, n4, c4, ps, by omega, by simp, rfl, HI.out.same H7.out.2.2.2.1 Hz.out.1 He.out⟩, by simp [intOf]; omega⟩
    ·have He := Lib.hid he
     clear he
     go_wp2_with (first
      | (go_at_call 38; refine hrd.mono ?_; rintro e w7 ⟨g7, c7, rfl, hO7, hb7⟩; have H7 := Lib.hid (And.intro hO7 (And.intro hb7 (And.intro (HQ.out.2.1.below hb7) (And.intro (Old.trans HQ.out.1 hb7) (Old.trans HQ.out.2.2.1 hb7))))); clear hO7 hb7)
      | (go_at_call 66; refine (equalB_any _ _ _ _ _ _ _ _ _ H7.out.2.2.1.rd H7.out.1.rd).mono ?_; rintro e w' ⟨rfl, rfl⟩; rw [decide_eq_false He.out])
      | (at_builtin; go_must (refine wp_appE Tryz.eP (.tmp 32) (.tmp 36) w.heap.size (.slice A4 n4 c4) ps ((HI.out.own.1.below H7.out.2.2.2.1).below ((Old.refl w7).alloc _)) (by have := H7.out.2.2.2.2.size; simp; omega) (some ⟨w7.heap.size, 0, none⟩) 1 1 [⟨(k : Int), some ⟨X, 0, none⟩, 256, 256, pg b k⟩] (Blk.rdC Tryz.eP (Blk.new _ _ _) rfl) (fun h => by cases h) (by have := HQ.out.2.2.2; have := Hs.out; simp; omega) rfl rfl rfl rfl ?_); intro A9 n9 c9 w9 hG; have H9 := Lib.hid hG; clear hG))
     rw [IntWalk.wrap64_in ((k : Int) + 1) (by have := Hs.out.2; omega)]
     exact ⟨⟨k + 1, A9, n9, c9, _, by omega, by simp, rfl, HI.out.snoc H7.out.2.2.2.1 HX.out.2.2.1 H7.out.2.2.1 (.inr He.out) H9.out⟩, by simp [intOf]; omega⟩
  ·obtain rfl : k = K := by omega
   have hk2 : (k : Int) * 256 ≤ 257000 := by have := HK.out; have := Hm2.out; omega
   have hk1 : ¬ (k : Int) * 256 < (m : Int) := by have := HK.out; omega
   go_wp2_with fail
   go_ret
   exact ⟨_, _, _, ps, rfl, HI.out⟩
structure Vol (ms : List (List UInt8)) (M : List SRec) : Prop where
 full : ∀ m ∈ ms, m.length = 256
 front : (ms.flatten).take (pagesB M).length = pagesB M
theorem dk_sectors {w : World} {d L : Nat} {s : Dsk} (h : DkAt w d L s) : Calls Tryz.prog 31 #[.pointer (some ⟨d, 0, none⟩)] w fun e w' => e = .returned (.int .i64 (s.n : Int)) ∧ w = w' := by
 obtain ⟨xs, hx⟩ := h
 exact sectors_any d L xs s w hx
theorem pages_pos (M : List SRec) : 19 ≤ (pagesB M).length := by
 unfold pagesB
 rw [List.length_append, List.length_append, beTail_len]
 have : magB.length = 15 := rfl
 omega
theorem pageN_pos {M : List SRec} : 1 ≤ pageN (pagesB M) := by
 unfold pageN
 have := pages_pos M
 omega
theorem putsP_pos (ms : List (List UInt8)) (b : List UInt8) (k : Nat) : (0, pg b 0) ∈ putsP ms b (k + 1) := by
 unfold putsP
 rw [List.mem_filter]
 exact ⟨List.mem_map.2 ⟨0, List.mem_range.2 (by omega), rfl⟩, by simp⟩
theorem PuI.pos {w wr : World} {ms : List (List UInt8)} {b : List UInt8} {k n4 c4 : Nat} {A4 : Option Addr} {ps : List PutV} (h : PuI w wr ms b k A4 n4 c4 ps) (hk : 1 ≤ k) : 0 < ps.length := by
 obtain ⟨j, rfl⟩ : ∃ j, k = j + 1 := ⟨k - 1, by omega⟩
 have := putsP_pos ms b j
 rw [← h.is] at this
 obtain ⟨p, hp, _⟩ := List.mem_map.1 this
 exact List.length_pos_of_mem hp
theorem PuI.may {w wr : World} {ms : List (List UInt8)} {b : List UInt8} {k n4 c4 B : Nat} {A4 : Option Addr} {ps : List PutV} (h : PuI w wr ms b k A4 n4 c4 ps) (hk : k ≤ B) : mayP B ps = true := by
 unfold mayP
 rw [Bool.and_eq_true, decide_eq_true_iff, List.all_eq_true]
 refine ⟨Nat.le_trans h.few hk, fun p hp => ?_⟩
 have h1 : toPut p ∈ putsP ms b k := by rw [← h.is]; exact List.mem_map_of_mem hp
 obtain ⟨h2, h3⟩ := putsP_mem h1
 have h4 := h.nn p hp
 unfold toPut at h2 h3
 simp only at h2 h3
 unfold okP
 rw [h3, pg_len]
 simp
 omega
theorem Mnt.commitK {w : World} {d L v B n S k : Nat} {s : Dsk} {ms : List (List UInt8)} (h : Mnt w d L v B n s S ms) (hB : (S - 8) / 2 = B) (hK : KAt w) (hn : n ≤ 100) (hf : FOk s k) (hk : k < 10000) {base : Nat} {A : Option Addr} {cp : Nat} {ps : List PutV} (hP : PutsOwn w base (.slice A ps.length cp) ps)
  (hm : mayP B ps = true) (h0 : 0 < ps.length) :
  Calls Tryz.prog 34 #[.pointer (some ⟨v, 0, none⟩), .slice A ps.length cp] w fun e w' => ∃ s', e = .returned (.int .i64 0) ∧ Mnt w' d L v B (n + 1) s' S (after ms (ps.map toPut)) ∧ FOk s' (k + 1000) ∧ Turn [d, L, v] w w' := by
 refine (commit_two v d L B n k base A ps.length cp ps s ms w h.V h.D hK hP h.G (by rw [h.sn, hB]) (by omega) hf (by omega)).mono ?_
 obtain ⟨s', h1, h2, h3, h4, h5, h6⟩ := turn_live (m2 := after ms (ps.map toPut)) h.G hf h.fu h.de (by rw [after_len]; exact h.G.len)
 rintro e w' (⟨hx, _⟩ | ⟨_, hx, _⟩ | ⟨_, _, rfl, hD5, hV5, hT5⟩)
 ·rw [hm] at hx; cases hx
 ·rw [hx] at h0; simp at h0
 ·rw [h1] at hD5 hV5 ⊢
  simp only [if_true, Bool.not_true] at hD5 hV5 ⊢
  exact ⟨s', trivial, ⟨hD5, hV5, h2, h4.trans h.sn, h6, h5⟩, h3, hT5⟩
theorem Mnt.dev {w : World} {d L v B n S : Nat} {s : Dsk} {ms : List (List UInt8)} (h : Mnt w d L v B n s S ms) : Dev w d L n s S ms := ⟨h.D, h.G, h.sn, h.de, h.fu⟩
theorem Vol.after {ms : List (List UInt8)} {M : List SRec} (hf : ∀ m ∈ ms, m.length = 256) (hl : (pagesB M).length ≤ 256 * ms.length) : Vol (after ms (putsP ms (pagesB M) (pageN (pagesB M)))) M :=
 ⟨after_256 ms _ _ hf, after_holds ms _ hl⟩
theorem Fine.nil : Fine [] := ⟨fun p hp => (by cases hp), fun p hp => (by cases hp), Nat.zero_le _⟩
theorem KAt.mnt {w w' : World} (h : KAt w) {d L v B n S : Nat} {s : Dsk} {ms : List (List UInt8)} (hM : Mnt w d L v B n s S ms) (ht : Turn [d, L, v] w w') : KAt w' := by
 obtain ⟨xs, h1, h2, h3, h4, _⟩ := hM.D
 have hk := h.2 0 _ (show kTab[0]? = some (kTab.getD 0 0) from rfl)
 have key : ∀ g : Nat, g = 1 → w.cell? ⟨g, 0, none⟩ = some (U64 (kTab.getD 0 0)) := fun g hg => by rw [hg]; exact hk
 refine h.turn ht (fun hm => ?_)
 rw [List.mem_cons, List.mem_cons, List.mem_singleton] at hm
 rcases hm with e | e | e
 ·have hk := key d e.symm
  rw [h1.cell] at hk
  cases hk
 ·obtain ⟨x, hx⟩ : ∃ x, xs[0]? = some x := ⟨_, List.getElem?_eq_getElem (by rw [h3.1]; exact h4)⟩
  obtain ⟨A1, n1, c1, e1⟩ := (h3.2 0 x _ hx (List.getElem?_eq_getElem h4)).1.slice
  have h0 := (encS_get xs 0 x hx).1
  rw [Nat.zero_mul] at h0
  have hk := key L e.symm
  rw [h2.cell, List.getElem?_toArray, h0, e1] at hk
  cases hk
 ·have hk := key v e.symm
  rw [hM.V.cells.1] at hk
  cases hk
def FmtRes (w : World) (d L S : Nat) (e : Ending) (w' : World) : Prop := ∃ s' ms, e = .returned (.int .i64 0) ∧ Dev w' d L 1 s' S ms ∧ Vol ms [] ∧ ms.length = (S - 8) / 2 ∧ FOk s' 2000 ∧ KAt w' ∧ Turn [d, L] w w'
set_option maxHeartbeats 4000000 in
theorem stformat_any (d L S : Nat) (s0 : Dsk) (w : World) (hD : DkAt w d L s0) (hz : ZeroD s0) (hsn : s0.n = S) (h0 : 64 ≤ S) (h1 : S ≤ 1000) (hfo : FOk s0 0) (hu0 : s0.fused = false ∧ s0.dead = false) (hK : KAt w) :
  Calls Tryz.prog 12 #[.pointer (some ⟨d, 0, none⟩)] w (FmtRes w d L S) := by
 have hsec := dk_sectors hD
 rw [hsn] at hsec
 have hft := format_two d L s0 w hD (by omega) (by omega) hfo hz hK
 obtain ⟨ok1, s1, hs1⟩ : ∃ ok1 s1, s0.fmt = (ok1, s1) := ⟨_, _, rfl⟩
 have hfc := fmt_cases hz (by omega) (by omega) hs1
 have hfk := fmt_fok hfo
 rw [hs1] at hfk
 obtain ⟨k1, k2, k3⟩ := hfc.2.2.2 hu0.1 hu0.2
 subst k1
 have hg1 := hfc.2.1 rfl
 have hn1 := hfc.1.trans hsn
 rw [hsn] at hg1
 have hf2 : s0.fmt2 = (true, s1) := by unfold Dsk.fmt2; rw [if_neg (by simp [hu0.2]), hs1]
 rw [hf2] at hft
 simp only [if_true] at hft
 have t1 : ¬ (S : Int) < 64 := by omega
 obtain ⟨B, hB⟩ : ∃ B, (S - 8) / 2 = B := ⟨_, rfl⟩
 rw [hB] at hg1
 have H2 := Lib.hid (And.intro hD (And.intro hK (And.intro hg1 (And.intro hn1 (And.intro k2 (And.intro k3 (And.intro hfk (And.intro hB (And.intro h0 h1)))))))))
 unfold FmtRes
 rw [hB]
 obtain ⟨TG, hTG⟩ : ∃ TG : Ending → World → Prop, (fun e w' => ∃ s' ms, e = Ending.returned (.int .i64 0) ∧ Dev w' d L 1 s' S ms ∧ Vol ms [] ∧ ms.length = B ∧ FOk s' 2000 ∧ KAt w' ∧ Turn [d, L] w w') = TG := ⟨_, rfl⟩
 rw [hTG]
 clear hD hK hg1 hn1 k2 k3 hfk hfc hu0 hs1 hfo hsn hz hf2 hB h0 h1
 go_enter Tryz.func12, Tryz.ntmps12
 go_wp2_with (first
  | (go_at_call 31; refine hsec.mono ?_; rintro e w' ⟨rfl, rfl⟩)
  | (go_at_call 32; refine hft.mono ?_; rintro e w3 ⟨rfl, hD3, hT3⟩; have H3 := Lib.hid (And.intro hD3 (And.intro hT3 (H2.out.2.1.beside H2.out.1 hT3))); clear hD3 hT3)
  | (go_at_call 33; go_loud (refine (Dev.mount (B := B) (show Dev w3 d L 0 s1 S _ from ⟨H3.out.1, H2.out.2.2.1, H2.out.2.2.2.1, H2.out.2.2.2.2.1, H2.out.2.2.2.2.2.1⟩) H2.out.2.2.2.2.2.2.2.1 H3.out.2.2 (by omega)).mono ?_; rintro e w4 ⟨v, rfl, hv4, hM4, hd4, hO4⟩; have H4 := Lib.hid (And.intro hv4 (And.intro hM4 (And.intro hO4 (H3.out.2.2.below hO4)))); clear hv4 hM4 hd4 hO4)))
 refine (pages_any none [] w4 (.inl ⟨rfl, rfl⟩) Fine.nil (by simp)).mono ?_
 rintro e w5 ⟨A5, n5, c5, rfl, hO5, hb5⟩
 have hn5 := hO5.len
 have hpl : (pagesB []).length = 19 := rfl
 rw [hpl] at hn5
 have H5 := Lib.hid (And.intro hO5 (And.intro hb5 (And.intro (H4.out.2.1.below hb5) (And.intro (H4.out.2.2.2.below hb5) hn5))))
 clear hO5 hb5 hn5 hpl hsec hft
 go_wp2_with (go_at_call 35; refine (stputs_any H5.out.2.2.1.q H2.out.2.2.2.2.2.2.2.1 (by omega) A5 n5 c5 _ H5.out.1.rd (by have := H5.out.2.2.2.2; have := H2.out.2.2.2.2.2.2.2; omega) (by have := H2.out.2.2.2.2.2.2.2; omega)).mono ?_; rintro e w6 ⟨A6, n6, c6, ps, rfl, hP⟩; obtain rfl := hP.own.1.len; have H6 := Lib.hid (And.intro hP (And.intro (H5.out.2.2.1.below hP.old) (H5.out.2.2.2.1.below hP.old))); clear hP)
 refine (Mnt.commitK H6.out.2.1 H2.out.2.2.2.2.2.2.2.1 H6.out.2.2 (by omega) (k := 4) (H2.out.2.2.2.2.2.2.1.mono (by omega)) (by omega) H6.out.1.own (H6.out.1.may (by have : pageN (pagesB []) = 1 := rfl; rw [this]; have := H2.out.2.2.2.2.2.2.2; omega)) (H6.out.1.pos pageN_pos)).mono ?_
 rintro e w7 ⟨s7, rfl, hM7, hF7, hT7⟩
 rw [H6.out.1.is] at hM7
 have hK7 : KAt w7 := H6.out.2.2.mnt H6.out.2.1 hT7
 have H7 := Lib.hid (And.intro hM7 (And.intro hF7 (And.intro hT7 hK7)))
 clear hM7 hF7 hT7 hK7
 go_wp2_with fail
 rw [← hTG]
 have hml : (List.replicate B (zs 256)).length = B := by simp
 refine ⟨s7, _, rfl, H7.out.1.dev, Vol.after (fun m hm => by rw [List.eq_of_mem_replicate hm]; exact zs_len 256) (by rw [hml]; have : (pagesB []).length = 19 := rfl; rw [this]; have := H2.out.2.2.2.2.2.2.2; omega), by rw [after_len, hml], H7.out.2.1.mono (by omega), H7.out.2.2.2, ?_⟩
 have hT6 : Turn [d, L] w w6 := (H3.out.2.1.trans (Turn.of_below [] H4.out.2.2.1) (by simp)).trans (Turn.of_below [] (Old.trans H5.out.2.1 H6.out.1.old)) (by simp)
 refine hT6.trans H7.out.2.2.1 (fun x hx => ?_)
 rcases List.mem_cons.1 hx with rfl | hx
 ·exact .inl (by simp)
 rcases List.mem_cons.1 hx with rfl | hx
 ·exact .inl (by simp)
 rw [List.mem_singleton] at hx
 subst hx
 exact .inr (Nat.le_trans H3.out.2.1.size H4.out.1)
structure StAt (w : World) (x v d L b n S : Nat) (s : Dsk) (ms : List (List UInt8)) (M : List SRec) : Prop where
 blk : Blk w x 83 #[.pointer (some ⟨v, 0, none⟩), .int .i64 ((64 * S : Nat) : Int), .map (some b), .bool false]
 mnt : Mnt w d L v ((S - 8) / 2) n s S ms
 map : RMap w b M
 fine : Fine M
 vol : Vol ms M
 room : sload M ≤ 64 * S
theorem StAt.below {w w' : World} {x v d L b n S : Nat} {s : Dsk} {ms : List (List UInt8)} {M : List SRec} (h : StAt w x v d L b n S s ms M) (hb : Old w w') : StAt w' x v d L b n S s ms M :=
 ⟨h.blk.below hb, h.mnt.below hb, h.map.below hb, h.fine, h.vol, h.room⟩
theorem vol_len {ms : List (List UInt8)} (h : ∀ m ∈ ms, m.length = 256) : ms.flatten.length = 256 * ms.length := by
 induction ms with
 | nil => rfl
 | cons m ms ih =>
  rw [List.flatten_cons, List.length_append, h m (by simp), ih (fun q hq => h q (by simp [hq])), List.length_cons]
  omega
theorem Vol.split {ms : List (List UInt8)} {M : List SRec} (h : Vol ms M) : ∃ tl, ms.flatten = pagesB M ++ tl :=
 ⟨ms.flatten.drop (pagesB M).length, by conv => lhs; rw [← List.take_append_drop (pagesB M).length ms.flatten, h.front]⟩
theorem flat_snoc {ms : List (List UInt8)} {k : Nat} {b : List UInt8} (h : ms[k]? = some b) : (ms.take (k + 1)).flatten = (ms.take k).flatten ++ b := by
 rw [List.take_add_one, h]; simp
structure OpI (w wl : World) (ms : List (List UInt8)) (k : Nat) (A : Option Addr) (n c : Nat) : Prop where
 own : Own wl w.heap.size (.slice A n c) (ms.take k).flatten
 old : Old w wl
def OpenRes (w : World) (d L n S : Nat) (s : Dsk) (ms : List (List UInt8)) (M : List SRec) (e : Ending) (w' : World) : Prop := ∃ x v b, e = .returned (.tuple #[.pointer (some ⟨x, 0, none⟩), .int .i64 0]) ∧ StAt w' x v d L b n S s ms M ∧ w.heap.size ≤ x ∧ w.heap.size ≤ v ∧ w.heap.size ≤ b ∧ Old w w'
set_option maxHeartbeats 4000000 in
theorem stopen_any {w : World} {d L n S : Nat} {s : Dsk} {ms : List (List UInt8)} {M : List SRec} (hD : Dev w d L n s S ms) (hn : n ≤ 100) (h0 : 64 ≤ S) (h1 : S ≤ 1000) (hV : Vol ms M) (hF : Fine M) (hM : Rising M) (hR : sload M ≤ 64 * S) (hN : M.length ≤ 100000) (hK : KAt w) :
  Calls Tryz.prog 13 #[.pointer (some ⟨d, 0, none⟩)] w (OpenRes w d L n S s ms M) := by
 have hsec := dk_sectors hD.D
 rw [hD.sn] at hsec
 obtain ⟨B, hB⟩ : ∃ B, (S - 8) / 2 = B := ⟨_, rfl⟩
 have hmt := Dev.mount hD hB hK hn
 have t1 : ¬ (S : Int) < 64 := by omega
 have hml : ms.length = B := by rw [hD.G.len, hD.sn, hB]
 have HV := Lib.hid (And.intro hD (And.intro hB (And.intro hn (And.intro hV (And.intro hF (And.intro hM (And.intro hR (And.intro hN (And.intro hK (And.intro hml (And.intro h0 h1)))))))))))
 have hB5 : (B : Int) ≤ 500 := by omega
 obtain ⟨TG, hTG⟩ : ∃ TG : Ending → World → Prop, OpenRes w d L n S s ms M = TG := ⟨_, rfl⟩
 rw [hTG]
 clear hD hB hn hV hF hM hR hN hK hml h0 h1
 go_enter Tryz.func13, Tryz.ntmps13
 go_wp2_with (first
  | (go_at_call 31; refine hsec.mono ?_; rintro e w' ⟨rfl, rfl⟩)
  | (go_at_call 33; refine hmt.mono ?_; rintro e w4 ⟨v, rfl, hv4, hM4, hd4, hO4⟩; have hbl := blocks_any v d B n false w4 hM4.V; have H4 := Lib.hid (And.intro hv4 (And.intro hM4 (And.intro hO4 hd4))); clear hv4 hM4 hd4 hO4)
  | (go_at_call 37; refine hbl.mono ?_; rintro e w' ⟨rfl, rfl⟩))
 go_loopw [6, 23] (fun lv iv wl => ∃ (k : Nat) (A5 : Option Addr) (n5 c5 : Nat), k ≤ B ∧ iv = .int .i64 (k : Int) ∧ lv = .slice A5 n5 c5 ∧ OpI w4 wl ms k A5 n5 c5) (fun _ iv _ => B - (intOf iv).toNat)
 case atStart => exact ⟨0, none, 0, 0, Nat.zero_le _, rfl, rfl, by simpa using Own.nil _ _, Old.refl _⟩
 case round =>
  obtain ⟨k, A5, n5, c5, hk, rfl, rfl, hI⟩ := hrel
  have HI := Lib.hid hI
  clear hI
  by_cases hlt : k < B
  ·have hlti : (k : Int) < B := by omega
   have hkb : (k : Int) + 1 ≤ 501 := by omega
   have hrd := Mnt.read (H4.out.2.1.below HI.out.old) HV.out.2.1 HV.out.2.2.1 k hlt
   obtain ⟨bk, hbk⟩ : ∃ bk, ms[k]? = some bk := ⟨_, List.getElem?_eq_getElem (by rw [HV.out.2.2.2.2.2.2.2.2.2.1]; exact hlt)⟩
   rw [show rowB ms k = bk by unfold rowB; rw [hbk]; rfl] at hrd
   have hfl : (ms.take k).flatten.length = 256 * k := by
    have := vol_len (ms := ms.take k) (fun m hm => HV.out.2.2.2.1.full m (List.mem_of_mem_take hm))
    rw [this, List.length_take, HV.out.2.2.2.2.2.2.2.2.2.1, Nat.min_eq_left hk]
   have hbl : bk.length = 256 := HV.out.2.2.2.1.full bk (List.mem_of_getElem? hbk)
   have HP := Lib.hid (And.intro hbk (And.intro hfl (And.intro hbl (show k < 500 by omega))))
   clear hbk hfl hbl
   go_wp2_with (first
    | (go_at_call 38; refine hrd.mono ?_; rintro e w7 ⟨g7, c7, rfl, hO7, hb7⟩; have H7 := Lib.hid (And.intro hO7 (And.intro hb7 (And.intro (HI.out.own.below hb7) (Old.trans HI.out.old hb7)))); clear hO7 hb7)
    | (at_builtin; go_must (refine wp_app2 (.tmp 26) (.tmp 29) w4.heap.size (.slice A5 n5 c5) _ H7.out.2.2.1 H7.out.2.2.2.size (some ⟨g7, 0, none⟩) 256 c7 bk H7.out.1.rd (by have := HP.out; omega) rfl rfl rfl rfl ?_; intro A9 n9 c9 w9 hn9 hG9; have H9 := Lib.hid hG9; clear hG9)))
   go_roundw
   case measure => simp [intOf]; omega
   exact ⟨k + 1, A9, n9, c9, by omega, by simp, rfl, by rw [flat_snoc HP.out.1]; exact H9.out.own, Below.trans H7.out.2.2.2 H9.out.below⟩
  ·obtain rfl : k = B := by omega
   have hlti : ¬ ((k : Int) < k) := by omega
   obtain ⟨tl, htl⟩ := HV.out.2.2.2.1.split
   have hO := HI.out.own
   rw [List.take_of_length_le (by rw [HV.out.2.2.2.2.2.2.2.2.2.1]; exact Nat.le_refl _), htl] at hO
   have hfl := vol_len HV.out.2.2.2.1.full
   rw [htl, HV.out.2.2.2.2.2.2.2.2.2.1] at hfl
   have hre := read_any A5 n5 c5 M tl wr hO.rd HV.out.2.2.2.2.1 HV.out.2.2.2.2.2.1 HV.out.2.2.2.2.2.2.2.1 (by rw [hO.len, hfl]; omega)
   have hS : (S : Int) ≤ 1000 := by have := HV.out.2.2.2.2.2.2.2.2.2.2; omega
   clear hO hfl htl
   have hold : Old w wr := Old.trans H4.out.2.2.1 HI.out.old
   go_wp2_with (first
    | (go_at_call 39; refine hre.mono ?_; rintro e w7 ⟨b, rfl, hM7, hb7, hO7⟩; have hsec := dk_sectors ((H4.out.2.2.2.D.below HI.out.old).below hO7); rw [HV.out.1.sn] at hsec; have H7 := Lib.hid (And.intro hM7 (And.intro hb7 (And.intro hO7 (H4.out.2.1.below (Old.trans HI.out.old hO7))))); clear hM7 hb7 hO7)
    | (go_at_call 31; refine hsec.mono ?_; rintro e w' ⟨rfl, rfl⟩))
   rw [← hTG]
   have hA : Old w w7 := Old.trans hold H7.out.2.2.1
   have hcs : ∀ cs : Array Value, cs = #[Value.pointer (some ⟨v, 0, none⟩), .int .i64 ((64 * S : Nat) : Int), .map (some b), .bool false] → Blk (w7.alloc (.cells cs 83)) w7.heap.size 83 #[.pointer (some ⟨v, 0, none⟩), .int .i64 ((64 * S : Nat) : Int), .map (some b), .bool false] := fun cs e => by rw [e]; exact Blk.new _ _ _
   refine ⟨w7.heap.size, v, b, rfl, ⟨hcs _ (by first | rfl | (congr 1)), ?_, ?_, HV.out.2.2.2.2.1, HV.out.2.2.2.1, HV.out.2.2.2.2.2.2.1⟩, hA.size, H4.out.1, ?_, hA.alloc _⟩
   ·rw [HV.out.2.1]
    exact H7.out.2.2.2.below ((Old.refl _).alloc _)
   ·exact H7.out.1.below ((Old.refl _).alloc _)
   ·exact Nat.le_trans hold.size H7.out.2.1
structure PC where
 id : Int
 drop : Bool
 A : Option Addr
 n : Nat
 c : Nat
 l : List UInt8
def Tryz.eC : ETy PC where
 t := 34
 ts := 51
 sz := 3
 bytes := 40
 z := .agg #[.int .i64 0, .bool false, .slice none 0 0]
 cells := fun p => [.int .i64 p.id, .bool p.drop, .slice p.A p.n p.c]
 len := fun _ => rfl
 one := fun x u hu => by simp at hu; rcases hu with rfl | rfl | rfl <;> rfl
 pos := by decide
 zsz := rfl
 small := by decide
 und := Tryz.underlying51
 info := by kernel_rfl
structure ChsAt (w : World) (A : Option Addr) (m : Nat) (cs : List PC) : Prop where
 rd : RdC Tryz.eC w A m cs
 each : ∀ p ∈ cs, Rd w p.A p.n p.c p.l
 wf : ∀ p ∈ cs, wfI p.id
theorem ChsAt.below {w w' : World} {A : Option Addr} {m : Nat} {cs : List PC} (h : ChsAt w A m cs) (hb : Old w w') : ChsAt w' A m cs := ⟨h.rd.below hb, fun p hp => (h.each p hp).below hb, h.wf⟩
theorem ChsAt.at_ {w : World} {A : Option Addr} {m : Nat} {cs : List PC} (h : ChsAt w A m cs) {j : Nat} {p : PC} (hp : cs[j]? = some p) : ∃ g off, A = some ⟨g, off, none⟩ ∧
  w.cell? ⟨g, off + j * 3, none⟩ = some (.int .i64 p.id) ∧ w.cell? ⟨g, off + j * 3 + 1, none⟩ = some (.bool p.drop) ∧ w.cell? ⟨g, off + j * 3 + 2, none⟩ = some (.slice p.A p.n p.c) := by
 obtain ⟨g, off, e, _, h3⟩ := h.rd.at_ hp
 have hs : Tryz.eC.sz = 3 := rfl
 rw [hs] at h3
 exact ⟨g, off, e, h3 0 (by decide), h3 1 (by decide), h3 2 (by decide)⟩
def okC (p : PC) : Bool := decide (1 ≤ p.id) && decide (p.id ≤ 65535) && (p.drop || decide (p.l.length ≤ 16384))
theorem neStore (w : World) (a : Addr) : (binOp .eql 28 (.pointer (some a)) (.pointer none)).run Tryz.prog w = .ok (.bool false) w := by kernel_rfl
theorem room_any (x v d L b n S : Nat) (s : Dsk) (ms : List (List UInt8)) (M : List SRec) (w : World) (h : StAt w x v d L b n S s ms M) :
  Calls Tryz.prog 23 #[.pointer (some ⟨x, 0, none⟩)] w fun e w' => e = .returned (.int .i64 ((64 * S : Nat) : Int)) ∧ w = w' := by
 have h1 := h.blk.cell 1
 simp only [List.getElem?_toArray, List.getElem?_cons_succ, List.getElem?_cons_zero] at h1
 obtain ⟨R, hR⟩ : ∃ R, ((64 * S : Nat) : Int) = R := ⟨_, rfl⟩
 rw [hR] at h1 ⊢
 have hne := neStore
 clear h hR
 go_enter Tryz.func23, Tryz.ntmps23
 go_wp2_with fail
 go_ret
 exact ⟨rfl, rfl⟩
theorem Load_any (x b : Nat) (p r br : Value) (M : List SRec) (w : World) (hx : Blk w x 83 #[p, r, .map (some b), br]) (hM : RMap w b M) (hl : sload M ≤ 1000000000) :
  Calls Tryz.prog 16 #[.pointer (some ⟨x, 0, none⟩)] w fun e w' => e = .returned (.int .i64 (sload M : Int)) ∧ Old w w' := by
 have h1 := hx.cell 2
 simp only [List.getElem?_toArray, List.getElem?_cons_succ, List.getElem?_cons_zero] at h1
 have hne := neStore
 have hld := stload_any b M w hM hl
 clear hx hM
 go_enter Tryz.func16, Tryz.ntmps16
 go_wp2_with (go_at_call 42; refine hld.mono ?_; rintro e w' ⟨rfl, hO⟩)
 go_ret
 exact ⟨rfl, hO⟩
def GetRes (w : World) (o : Option (List UInt8)) (e : Ending) (w' : World) : Prop := ∃ A c, e = .returned (.tuple #[.slice A (o.getD []).length c, .bool o.isSome]) ∧ Own w' w.heap.size (.slice A (o.getD []).length c) (o.getD []) ∧ Old w w'
theorem Get_any (x b : Nat) (p r br : Value) (M : List SRec) (i : Int) (w : World) (hx : Blk w x 83 #[p, r, .map (some b), br]) (hM : RMap w b M) (hi : wfI i) (hl : ∀ q ∈ M, q.2.length ≤ 100000) :
  Calls Tryz.prog 15 #[.pointer (some ⟨x, 0, none⟩), .int .i64 i] w (GetRes w (sget M i)) := by
 have h1 := hx.cell 2
 simp only [List.getElem?_toArray, List.getElem?_cons_succ, List.getElem?_cons_zero] at h1
 have hne := neStore
 obtain ⟨f, hf, hR⟩ := hM.map
 have hlk : (Instr.lookup 79 (.map (some b)) (.int .i64 i) true).run Tryz.prog w = .ok (.tuple #[(f i).getD Tryz.mR.z, .bool (f i).isSome]) w := hf.look Tryz.mR i hi
 obtain ⟨o, ho⟩ : ∃ o, sget M i = o := ⟨_, rfl⟩
 rw [ho]
 obtain ⟨A, m, c, hv, hs, hrd⟩ : ∃ A m c, (f i).getD Tryz.mR.z = .slice A m c ∧ (f i).isSome = o.isSome ∧ Rd w A m c (o.getD []) := by
  cases o with
  | none => rw [hR.no i hi ho]; exact ⟨none, 0, 0, rfl, rfl, Rd.nil w⟩
  | some l =>
   obtain ⟨A, m, c, e1, e2⟩ := hR.yes i l hi ho
   rw [e1]
   exact ⟨A, m, c, rfl, rfl, e2.rd⟩
 rw [hv, hs] at hlk
 have hll : (o.getD []).length ≤ 100000 := by
  cases o with
  | none => exact Nat.zero_le _
  | some l => exact hl (i, l) (sget_some ho)
 have hcl := rclone_own A m c _ w hrd (by rw [hrd.1]; omega)
 obtain ⟨sm, hsm⟩ : ∃ sm, o.isSome = sm := ⟨_, rfl⟩
 obtain ⟨l, hlo⟩ : ∃ l, o.getD [] = l := ⟨_, rfl⟩
 unfold GetRes
 rw [hsm] at hlk ⊢
 rw [hlo] at hcl ⊢
 obtain ⟨TG, hTG⟩ : ∃ TG : Ending → World → Prop, (fun e w' => ∃ A c, e = Ending.returned (.tuple #[.slice A l.length c, .bool sm]) ∧ Own w' w.heap.size (.slice A l.length c) l ∧ Old w w') = TG := ⟨_, rfl⟩
 rw [hTG]
 clear hx hM hf hR hl hv hs hrd hll hlo hsm ho hi
 go_enter Tryz.func15, Tryz.ntmps15
 go_wp2_with (go_at_call 43; refine hcl.mono ?_; rintro e w' ⟨A', c', rfl, hO, hb⟩)
 rw [← hTG]
 exact ⟨A', c', rfl, hO, hb⟩
theorem okC_stop {k : Nat} {cs : List PC} {p : PC} (hk : cs[k]? = some p) (h : okC p = false) : cs.all okC = false := by
 cases h2 : cs.all okC with
 | false => rfl
 | true => rw [List.all_eq_true] at h2; rw [h2 p (List.mem_of_getElem? hk)] at h; cases h
theorem okC_take {k : Nat} {cs : List PC} {p : PC} (hk : cs[k]? = some p) (h : okC p = true) (ht : (cs.take k).all okC = true) : (cs.take (k + 1)).all okC = true := by
 rw [List.take_add_one, hk, List.all_append, ht]
 simp [h]
def MayRes (w : World) (b : Bool) (e : Ending) (w' : World) : Prop := e = .returned (.bool b) ∧ Old w w'
set_option maxHeartbeats 4000000 in
theorem stmay_any (x : Nat) (A : Option Addr) (m c : Nat) (cs : List PC) (w : World) (hC : ChsAt w A m cs) (hm : m ≤ 4096) :
  Calls Tryz.prog 40 #[.pointer (some ⟨x, 0, none⟩), .slice A m c] w (MayRes w (cs.all okC)) := by
 have hlen : cs.length = m := hC.rd.1
 have hne := neStore
 have t1 : ¬ 4096 < (m : Int) := by omega
 have HV := Lib.hid (And.intro hC hlen)
 clear hC hlen
 obtain ⟨TG, hTG⟩ : ∃ TG : Ending → World → Prop, MayRes w (cs.all okC) = TG := ⟨_, rfl⟩
 rw [hTG]
 go_enter Tryz.func40, Tryz.ntmps40
 go_wp2_with fail
 clear t1
 go_loopw [16] (fun i wr => ∃ k : Nat, k ≤ m ∧ i = .int .i64 (k : Int) ∧ Old w wr ∧ (cs.take k).all okC = true) (fun i _ => m - (intOf i).toNat)
 case atStart => exact ⟨0, by omega, rfl, Old.refl _, rfl⟩
 case round =>
  obtain ⟨k, hk, rfl, hO, hA⟩ := hrel
  have HR := Lib.hid (And.intro hO hA)
  clear hO hA
  by_cases hlt : k < m
  ·have hlti : (k : Int) < m := by omega
   have hkb : (k : Int) + 1 ≤ 5000 := by omega
   obtain ⟨p, hp⟩ : ∃ p, cs[k]? = some p := ⟨_, List.getElem?_eq_getElem (by rw [HV.out.2]; exact hlt)⟩
   have hPr := HV.out.1.below HR.out.1
   obtain ⟨g, off, rfl, k0, k1, k2⟩ := hPr.at_ hp
   have hnl := (hPr.each p (List.mem_of_getElem? hp)).1
   obtain ⟨id, drop, A2, n2, c2, l2⟩ := p
   simp only at k0 k1 k2 hnl
   obtain ⟨X, hX⟩ : ∃ X, wr.heap.size = X := ⟨_, rfl⟩
   obtain ⟨W1, hW1⟩ : ∃ W1, wr.alloc (.cells #[.int .i64 id, .bool drop, .slice A2 n2 c2] 34) = W1 := ⟨_, rfl⟩
   have hbX : Blk W1 X 34 #[.int .i64 id, .bool drop, .slice A2 n2 c2] := by rw [← hW1, ← hX]; exact Blk.new _ _ _
   have hOX : Old wr W1 := by rw [← hW1]; exact (Old.refl _).alloc _
   have x0 := hbX.cell 0
   have x1 := hbX.cell 1
   have x2 := hbX.cell 2
   simp only [List.getElem?_toArray, List.getElem?_cons_zero, List.getElem?_cons_succ] at x0 x1 x2
   have HX := Lib.hid (And.intro (Old.trans HR.out.1 hOX) (And.intro hp hnl))
   clear hPr hp hnl hbX hOX
   by_cases hi1 : id < 1
   ·have hok : okC ⟨id, drop, A2, n2, c2, l2⟩ = false := by unfold okC; simp; omega
    have Hok := Lib.hid hok
    clear hok
    go_wp2_with fail
    rw [← hTG, okC_stop HX.out.2.1 Hok.out]
    exact ⟨rfl, HX.out.1⟩
   ·by_cases hi2 : 65535 < id
    ·have hok : okC ⟨id, drop, A2, n2, c2, l2⟩ = false := by unfold okC; simp; omega
     have Hok := Lib.hid hok
     clear hok
     go_wp2_with fail
     rw [← hTG, okC_stop HX.out.2.1 Hok.out]
     exact ⟨rfl, HX.out.1⟩
    ·cases drop with
     | true =>
      have hok : okC ⟨id, true, A2, n2, c2, l2⟩ = true := by unfold okC; simp; omega
      have Hok := Lib.hid hok
      clear hok
      go_wp2_with fail
      go_roundw
      case measure => simp [intOf]; omega
      exact ⟨k + 1, by omega, by simp, HX.out.1, okC_take HX.out.2.1 Hok.out HR.out.2⟩
     | false =>
      have hnl2 : n2 = l2.length := HX.out.2.2
      by_cases hi3 : 16384 < n2
      ·have hi3i : (16384 : Int) < n2 := by omega
       have hok : okC ⟨id, false, A2, n2, c2, l2⟩ = false := by unfold okC; simp; omega
       clear hnl2
       have Hok := Lib.hid hok
       clear hok
       go_wp2_with fail
       rw [← hTG, okC_stop HX.out.2.1 Hok.out]
       exact ⟨rfl, HX.out.1⟩
      ·have hi3i : ¬ (16384 : Int) < n2 := by omega
       have hok : okC ⟨id, false, A2, n2, c2, l2⟩ = true := by unfold okC; simp; omega
       clear hnl2
       have Hok := Lib.hid hok
       clear hok
       go_wp2_with fail
       go_roundw
       case measure => simp [intOf]; omega
       exact ⟨k + 1, by omega, by simp, HX.out.1, okC_take HX.out.2.1 Hok.out HR.out.2⟩
  ·obtain rfl : k = m := by omega
   have hlti : ¬ (k : Int) < k := by omega
   go_wp2_with fail
   rw [← hTG]
   have := HR.out.2
   rw [List.take_of_length_le (by rw [HV.out.2]; exact Nat.le_refl _)] at this
   rw [this]
   exact ⟨rfl, HR.out.1⟩
end Go.Proofs.YtgjnmpjimhbfgaaGreatDoor
namespace Go.Proofs.YtgjnmpjimhbfgaaGreatDoor
set_option maxRecDepth 100000
open Go.RowKit Go.Maps
theorem sdel_len {M : List SRec} (h : Rising M) (x : Int) : (sdel M x).length = if (sget M x).isSome then M.length - 1 else M.length := by
 induction M with
 | nil => rfl
 | cons p M ih =>
  obtain ⟨h1, h2⟩ := List.pairwise_cons.1 h
  have ihh := ih h2
  by_cases e : p.1 = x
  ·have e1 : sdel (p :: M) x = sdel M x := by simp [sdel, e]
   rw [e1, ihh, sget_cons, if_pos e, sget_lt (fun q hq => by have := h1 q hq; omega)]
   simp
  ·have e1 : sdel (p :: M) x = p :: sdel M x := by simp [sdel, e]
   rw [e1, List.length_cons, ihh, sget_cons, if_neg e]
   cases hs : (sget M x).isSome with
   | false => simp
   | true =>
    obtain ⟨q, hq, _⟩ := sget_isSome.1 hs
    have := List.length_pos_of_mem hq
    simp
    omega
theorem Recs.del {W : World} {M : List SRec} {f : Int → Option Value} (h : Recs W M f) (x : Int) : Recs W (sdel M x) (delH f x) := by
 refine ⟨fun y hy hs => ?_, fun y b hy hs => ?_⟩
 ·rw [sget_del] at hs
  unfold delH
  by_cases e : y = x
  ·rw [if_pos e]
  ·rw [if_neg e] at hs ⊢
   exact h.no y hy hs
 ·rw [sget_del] at hs
  unfold delH
  by_cases e : y = x
  ·rw [if_pos e] at hs; cases hs
  ·rw [if_neg e] at hs ⊢
   exact h.yes y b hy hs
section
variable {ops : Array Oper} {rest : List Oper} {o : Oper} {a : Act} {w : World} {Q : Exit → Act → World → Prop} {K : Act → World → Prop} {E : Prop}
theorem wp_rdel {b : Nat} {M : List SRec} (m k : Operand) (x : Int) (h : RMap w b M) (hx : wfI x) (hgd : o.guard = none)
  (ho : o.op = .call { callee := .builtin .delete, args := #[m, k], argTypes := #[79, 3] }) (hm : a.eval m = .map (some b)) (hk : a.eval k = .int .i64 x)
  (hK : ∀ w', RMap w' b (sdel M x) → Turn [b] w w' → wpList Tryz.prog ops Q rest (a.put o.dst (.tuple #[])) w') : wpList Tryz.prog ops Q (o :: rest) a w := by
 obtain ⟨f, h1, h2⟩ := h.map
 refine wp_delH Tryz.mR m k x h1 hx hgd ho hm hk (fun w' h3 hT => hK w' ⟨h.rise.del x, fun p hp => h.ids p (List.mem_filter.1 hp).1, delH f x, ?_, ?_⟩ hT)
 ·rw [sdel_len h.rise, ← h2.isS hx]; exact h3
 ·exact (h2.turn hT (fun g hg => .inl (by simp at hg; rw [hg]; exact h1.noRow))).del x
theorem step_rput {b : Nat} {M : List SRec} (m k v : Operand) (x : Int) (A : Option Addr) (n c : Nat) (l : List UInt8) (h : RMap w b M) (hn : M.length ≤ 1000000) (hx : wfI x) (hl : Own w 0 (.slice A n c) l) (hgd : o.guard = none)
  (ho : o.op = .mapUpdate 79 m k v) (hm : a.eval m = .map (some b)) (hk : a.eval k = .int .i64 x) (hv : a.eval v = .slice A n c)
  (hK : ∀ w', RMap w' b (sput M x l) → Turn [b] w w' → K (a.put o.dst undef) w') : if Region.wanted o (yielded ops a.tmps) = true then Oper.wp Tryz.prog o a w K Q else E := by
 rw [if_pos (by simp [Region.wanted, hgd])]
 obtain ⟨f, h1, h2⟩ := h.map
 obtain ⟨w', hr, h3, hT⟩ := h1.store Tryz.mR (by unfold maxLen; omega) x (.slice A n c) hx
 have hr' : (Instr.mapUpdate 79 (.map (some b)) (.int .i64 x) (.slice A n c)).run Tryz.prog w = .ok () w' := hr
 unfold Oper.wp
 simp [execOp, ho, hm, hk, hv, hr', Result.andThen]
 refine hK w' ⟨h.rise.put x l, sput_ids h.ids hx, putH f x (.slice A n c), ?_, ?_⟩ hT
 ·rw [sput_len h.rise, ← h2.isS hx]; exact h3
 ·refine Recs.put (h2.turn hT (fun g hg => .inl (by simp at hg; rw [hg]; exact h1.noRow))) h.rise x l (hl.turn hT (fun g hg hm => ?_))
  simp at hm
  rw [hm] at hg
  exact hl.notin h1.noRow hg
end
def schgs (M : List SRec) (cs : List PC) : List SRec := cs.foldl (fun M p => schg M p.id p.drop p.l) M
theorem schgs_take {M : List SRec} {k : Nat} {cs : List PC} {p : PC} (h : cs[k]? = some p) : schgs M (cs.take (k + 1)) = schg (schgs M (cs.take k)) p.id p.drop p.l := by
 unfold schgs
 rw [take_snoc h, List.foldl_append]; rfl
theorem schgs_rise {M : List SRec} (h : Rising M) (cs : List PC) : Rising (schgs M cs) := by
 induction cs generalizing M with
 | nil => exact h
 | cons p cs ih => exact ih (schg_rising h p.id p.drop p.l)
theorem schg_len {M : List SRec} (h : Rising M) (x : Int) (d : Bool) (l : List UInt8) : (schg M x d l).length ≤ M.length + 1 := by
 unfold schg
 split
 ·rw [sdel_len h]; split <;> omega
 ·rw [sput_len h]; split <;> omega
theorem schgs_len {M : List SRec} (h : Rising M) (cs : List PC) : (schgs M cs).length ≤ M.length + cs.length := by
 induction cs generalizing M with
 | nil => exact Nat.le_refl _
 | cons p cs ih =>
  have h1 := ih (schg_rising h p.id p.drop p.l)
  have h2 := schg_len h p.id p.drop p.l
  show (schgs (schg M p.id p.drop p.l) cs).length ≤ _
  rw [List.length_cons]
  omega
def partH (f : Int → Option Value) (ks : List Int) : Int → Option Value := fun x => if x ∈ ks then f x else none
theorem partH_put {f : Int → Option Value} {ks : List Int} {x : Int} {u : Value} (hu : f x = some u) : putH (partH f ks) x u = partH f (ks ++ [x]) := by
 funext a
 unfold putH partH
 by_cases e : a = x
 ·subst e; simp [hu]
 ·rw [if_neg e]; simp [e]
structure BeI (w wl : World) (b r N B : Nat) (f : Int → Option Value) (ks : List Int) (left : Lit → Bool) (cnt : Nat) : Prop where
 rng : HRange wl b r N f left cnt
 vis : Vis f ks left
 new : HMap wl B ks.length (partH f ks)
 old : Old w wl
def BehRes (w : World) (M : List SRec) (e : Ending) (w' : World) : Prop := ∃ B, e = .returned (.map (some B)) ∧ RMap w' B M ∧ w.heap.size ≤ B ∧ Old w w'
set_option maxHeartbeats 4000000 in
theorem behind_any (x b : Nat) (p r br : Value) (M : List SRec) (A : Option Addr) (m c : Nat) (cs : List PC) (w : World) (hx : Blk w x 83 #[p, r, .map (some b), br]) (hM : RMap w b M) (hC : ChsAt w A m cs) (hm : m ≤ 4096) (hN : M.length ≤ 100000) (hl : ∀ q ∈ cs, q.l.length ≤ 100000) :
  Calls Tryz.prog 41 #[.pointer (some ⟨x, 0, none⟩), .slice A m c] w (BehRes w (schgs M cs)) := by
 have hlen : cs.length = m := hC.rd.1
 have h2 := hx.cell 2
 simp only [List.getElem?_toArray, List.getElem?_cons_succ, List.getElem?_cons_zero] at h2
 obtain ⟨f, hf, hR⟩ := hM.map
 obtain ⟨N, hNN⟩ : ∃ N, M.length = N := ⟨_, rfl⟩
 rw [hNN] at hf hN
 have hlt := hM.lt
 have hmm := @run_makeMap Tryz.prog
 obtain ⟨w1, hw1⟩ : ∃ w1, w.alloc (.map #[] 0) = w1 := ⟨_, rfl⟩
 have hb1 : Old w w1 := by rw [← hw1]; exact (Old.refl _).alloc _
 have hB1 : HMap w1 w.heap.size 0 (fun _ => none) := by rw [← hw1]; exact HMap.made w
 have hs1 : w1.heap.size = w.heap.size + 1 := by rw [← hw1]; simp
 have h2' := cell_old hb1 h2
 have hf1 := hf.below hb1
 have HV := Lib.hid (And.intro hM.rise (And.intro hM.ids (And.intro hR (And.intro hNN (And.intro hN (And.intro hC (And.intro hlen (And.intro hl hlt))))))))
 have HB := Lib.hid (And.intro hb1 (And.intro hB1 (And.intro hs1 hf1)))
 clear hC hM hR hNN hN hl hlt hB1 hs1 hf hlen hx hf1 h2 hb1
 obtain ⟨TG, hTG⟩ : ∃ TG : Ending → World → Prop, BehRes w (schgs M cs) = TG := ⟨_, rfl⟩
 rw [hTG]
 go_enter Tryz.func41, Tryz.ntmps41
 go_wp2_with (first
  | (at_range; go_must (refine wp_hrange Tryz.mR _ HB.out.2.2.2 rfl rfl rfl ?_); intro w0 left cnt hrg hv hbw hs0; have HR0 := Lib.hid (And.intro hrg (And.intro hv (And.intro hbw hs0))); clear hrg hv hbw hs0)
  | go_in)
 try go_frame
 clear hmm hw1 h2'
 obtain ⟨X, hX⟩ : ∃ X, w.heap.size = X := ⟨_, rfl⟩
 obtain ⟨R, hR⟩ : ∃ R, w1.heap.size = R := ⟨_, rfl⟩
 rw [hX] at HB HV
 rw [hR] at HB HR0
 rw [hX, hR]
 have HX := Lib.hid (And.intro hX hR)
 clear hX hR
 go_loopw [6] (fun _ wl => ∃ ks left cnt, BeI w wl b R N X f ks left cnt) (fun _ wl => wl.rangeLeft b R)
 case atStart =>
  have hb2 : Old w1 w0 := by have := HR0.out.2.2.1; rw [← HX.out.2] at this; exact this
  exact ⟨[], _, _, HR0.out.1, HR0.out.2.1, (HB.out.2.1.below hb2).same (fun x _ => by simp [partH]), Old.trans HB.out.1 hb2⟩
 case round =>
  obtain ⟨ks, left, cnt, hI⟩ := hrel
  have HI := Lib.hid hI
  clear hI
  go_wp2_with (first
   | (at_next; go_must (refine wp_hnext _ ks left HI.out.rng HI.out.vis rfl rfl rfl ?_ ?_))
   | go_in)
  ·intro hall
   have hp := vis_perm HI.out.vis HV.out.2.2.1 HV.out.1 HV.out.2.1 hall
   have hnm : ks.length = M.length := by rw [hp.length_eq, List.length_map]
   have hM0 : RMap wr X M := by
    refine ⟨HV.out.1, HV.out.2.1, f, ?_, HV.out.2.2.1.below HI.out.old⟩
    rw [← hnm]
    refine HI.out.new.same (fun x hx => ?_)
    unfold partH
    by_cases e : x ∈ ks
    ·rw [if_pos e]
    ·rw [if_neg e]
     have := (not_congr (hall x hx)).1 e
     simp at this
     exact this.symm
   have HM := Lib.hid (And.intro hM0 HI.out.old)
   clear hall hp hnm hM0
   go_wp2_with fail
   clear HI HR0
   go_loopw [26] (fun iv wl => ∃ k : Nat, k ≤ m ∧ iv = .int .i64 (k : Int) ∧ RMap wl X (schgs M (cs.take k)) ∧ Old w wl) (fun iv _ => m - (intOf iv).toNat)
   case atStart => exact ⟨0, Nat.zero_le _, rfl, HM.out.1, HM.out.2⟩
   case round =>
    obtain ⟨k, hk, rfl, hRM, hO⟩ := hrel
    have HR := Lib.hid (And.intro hRM hO)
    clear hRM hO
    by_cases hlt : k < m
    ·have hlti : (k : Int) < m := by omega
     have hkb : (k : Int) + 1 ≤ 5000 := by omega
     obtain ⟨p, hp⟩ : ∃ p, cs[k]? = some p := ⟨_, List.getElem?_eq_getElem (by rw [HV.out.2.2.2.2.2.2.1]; exact hlt)⟩
     have hPr := HV.out.2.2.2.2.2.1.below HR.out.2
     obtain ⟨g, off, rfl, k0, k1, k2⟩ := hPr.at_ hp
     have hpm := List.mem_of_getElem? hp
     have hrd := hPr.each p hpm
     have hwf := hPr.wf p hpm
     have hll := HV.out.2.2.2.2.2.2.2.1 p hpm
     have htk := schgs_take (M := M) hp
     obtain ⟨id, drop, A2, n2, c2, l2⟩ := p
     simp only at k0 k1 k2 hrd hwf hll htk
     obtain ⟨Y, hY⟩ : ∃ Y, wr.heap.size = Y := ⟨_, rfl⟩
     obtain ⟨W1, hW1⟩ : ∃ W1, wr.alloc (.cells #[.int .i64 id, .bool drop, .slice A2 n2 c2] 34) = W1 := ⟨_, rfl⟩
     have hbX : Blk W1 Y 34 #[.int .i64 id, .bool drop, .slice A2 n2 c2] := by rw [← hW1, ← hY]; exact Blk.new _ _ _
     have hOX : Old wr W1 := by rw [← hW1]; exact (Old.refl _).alloc _
     have x0 := hbX.cell 0
     have x1 := hbX.cell 1
     have x2 := hbX.cell 2
     simp only [List.getElem?_toArray, List.getElem?_cons_zero, List.getElem?_cons_succ] at x0 x1 x2
     have hsl := schgs_len HV.out.1 (cs.take k)
     rw [List.length_take, HV.out.2.2.2.1] at hsl
     have hXY : X < Y := by rw [← hY]; exact HR.out.1.lt
     have HP := Lib.hid (And.intro (HR.out.1.below hOX) (And.intro (Old.trans HR.out.2 hOX) (And.intro (hrd.below hOX) (And.intro hwf (And.intro hll (And.intro htk (And.intro hbX (And.intro hXY (show (schgs M (cs.take k)).length ≤ 1000000 by have := HV.out.2.2.2.2.1; omega)))))))))
     clear hPr hp hpm hrd hwf hll htk hbX hOX hsl hXY
     cases drop with
     | true =>
      go_wp2_with (at_delete; go_must (refine wp_rdel (.tmp 32) (.tmp 34) id HP.out.1 HP.out.2.2.2.1 rfl rfl rfl rfl ?_); intro w8 hM8 hT8; have H8 := Lib.hid (And.intro hM8 hT8); clear hM8 hT8; try simp only [Act.put])
      go_roundw
      case measure => simp [intOf]; omega
      refine ⟨k + 1, by omega, by simp, ?_, HP.out.2.1.tnew H8.out.2 (fun y hy => by simp at hy; rw [hy, HX.out.1]; exact Nat.le_refl _)⟩
      rw [HP.out.2.2.2.2.2.1]
      exact H8.out.1
     | false =>
      go_wp2_with fail
      have hnX : Y ∉ [X] := by have := HP.out.2.2.2.2.2.2.2.1; simp; omega
      have HY := Lib.hid (And.intro x0 (And.intro x2 hnX))
      clear x0 x1 x2 k0 k1 k2 hW1 hnX
      refine region_turnV [X] (by kernel_rfl) (fun wd hOld hHeld hSz => ?_)
      have hO1 := hOld
      clear hOld hSz
      refine tkS 0 hHeld ?_
      refine tkS 1 hHeld ?_
      refine tkS 2 hHeld ?_ (hy := by intro wq hSw; have z0 := cell_turn HY.out.1 hSw HY.out.2.2; clear hSw; go_simp; try with_reducible rfl)
      refine tkS 3 hHeld ?_
      refine tkS 4 hHeld ?_ (hy := by intro wq hSw; have z2 := cell_turn HY.out.2.1 hSw HY.out.2.2; clear hSw; go_simp; try with_reducible rfl)
      refine rdL 5 (fun K hK => ?_)
      go_simp
      refine (rclone_own A2 n2 c2 l2 _ (HP.out.2.2.1.below hO1) (by have := HP.out.2.2.1.1; have := HP.out.2.2.2.2.1; omega)).mono ?_
      rintro e w7 ⟨A7, c7, rfl, hO7, hb7⟩
      refine hK.out _ _ (hHeld.trans (Turn.of_below [] hb7) (by simp)) (fun hHeld => ?_)
      clear hK K
      try simp only [Act.put, sA, sB, sC]
      refine rdL 6 (fun K hK => ?_)
      refine step_rput (.tmp 35) (.tmp 37) (.tmp 40) id A7 l2.length c7 l2 ((HP.out.1.below hO1).below hb7) HP.out.2.2.2.2.2.2.2.2 HP.out.2.2.2.1 (hO7.mono (Nat.zero_le _)) rfl rfl rfl rfl rfl ?_
      intro w8 hM8 hT8
      have hz := hHeld.trans hT8 (fun x hx => .inl hx)
      have H8 := Lib.hid (And.intro hM8 hz)
      refine hK.out _ _ hz (fun hHeld => ?_)
      clear hK K hz hM8 hT8
      try simp only [Act.put]
      refine wpAnyH_done (by kernel_rfl) ?_ _
      refine NoPanic.normal ?_
      try simp only [Exit.then]
      try go_at_K
      go_wp2_with fail
      go_roundw
      case measure => simp [intOf]; omega
      refine ⟨k + 1, by omega, by simp, ?_, HP.out.2.1.tnew H8.out.2 (fun y hy => by simp at hy; rw [hy, HX.out.1]; exact Nat.le_refl _)⟩
      rw [HP.out.2.2.2.2.2.1]
      exact H8.out.1
    ·obtain rfl : k = m := by omega
     have hlti : ¬ (k : Int) < k := by omega
     go_wp2_with fail
     rw [← hTG]
     have h1 := HR.out.1
     rw [List.take_of_length_le (by rw [HV.out.2.2.2.2.2.2.1]; exact Nat.le_refl _)] at h1
     exact ⟨X, rfl, h1, by rw [HX.out.1]; exact Nat.le_refl _, HR.out.2⟩
  ·intro x u w2 left1 cnt1 hx hu hk hv1 hrg1 hlt1 hT1 hs1 hen
   have hbX : b ≠ X := by have := HV.out.2.2.2.2.2.2.2.2; omega
   have hRX : R ≠ X := by have := HB.out.2.2.1; omega
   have hXw : w.heap.size = X := HX.out.1
   have hnew := HI.out.new.turn hT1 (by simp; omega)
   have hold : Old w w2 := HI.out.old.tnew hT1 (fun x hx => by simp at hx; have := HB.out.2.2.1; omega)
   have hcnt := vis_len HI.out.vis HV.out.2.2.1
   have H1 := Lib.hid (And.intro hrg1 (And.intro hv1 (And.intro hlt1 (And.intro hnew (And.intro hold (And.intro hcnt (And.intro hbX hRX)))))))
   have HE := Lib.hid (And.intro hx (And.intro hu hk))
   clear hrg1 hv1 hlt1 hT1 hs1 hx hu hk hnew hold hcnt hbX hRX hXw
   go_wp2_with (at_mapUpdate; go_must (refine wp_putH Tryz.mR (.tmp 21) (.tmp 22) (.tmp 23) x u H1.out.2.2.2.1 (by have h1 := H1.out.2.2.2.2.2.1; have h2 := HV.out.2.2.2.1; have h3 := HV.out.2.2.2.2.1; unfold maxLen; omega) HE.out.1 rfl rfl rfl rfl rfl ?_); intro w8 hM8 hT8; have H8 := Lib.hid (And.intro hM8 hT8); clear hM8 hT8; simp only [Act.put])
   go_roundw
   case measure => rw [(H1.out.1.turn H8.out.2 (by simp; exact H1.out.2.2.2.2.2.2.1) (by simp; exact H1.out.2.2.2.2.2.2.2)).left_eq, HI.out.rng.left_eq]; exact H1.out.2.2.1
   refine ⟨ks ++ [x], _, _, H1.out.1.turn H8.out.2 (by simp; exact H1.out.2.2.2.2.2.2.1) (by simp; exact H1.out.2.2.2.2.2.2.2), H1.out.2.1, ?_, H1.out.2.2.2.2.1.tnew H8.out.2 (fun y hy => by simp at hy; rw [hy, HX.out.1]; exact Nat.le_refl _)⟩
   have h8 := H8.out.1
   rw [partH_put HE.out.2.1] at h8
   rw [show (partH f ks x).isSome = false by unfold partH; rw [if_neg HE.out.2.2]; rfl] at h8
   simpa using h8
end Go.Proofs.YtgjnmpjimhbfgaaGreatDoor
namespace Go.Proofs.YtgjnmpjimhbfgaaGreatDoor
set_option maxRecDepth 100000
open Go.RowKit Go.Maps
structure Stq (w : World) (x v d L b n S : Nat) (s : Dsk) (ms : List (List UInt8)) (M : List SRec) : Prop where
 blk : Blk w x 83 #[.pointer (some ⟨v, 0, none⟩), .int .i64 ((64 * S : Nat) : Int), .map (some b), .bool false]
 mnt : Mnq w d L v ((S - 8) / 2) n s S ms
 map : RMap w b M
 fine : Fine M
 vol : Vol ms M
theorem StAt.q {w : World} {x v d L b n S : Nat} {s : Dsk} {ms : List (List UInt8)} {M : List SRec} (h : StAt w x v d L b n S s ms M) : Stq w x v d L b n S s ms M := ⟨h.blk, h.mnt.q, h.map, h.fine, h.vol⟩
theorem Stq.below {w w' : World} {x v d L b n S : Nat} {s : Dsk} {ms : List (List UInt8)} {M : List SRec} (h : Stq w x v d L b n S s ms M) (hb : Old w w') : Stq w' x v d L b n S s ms M := ⟨h.blk.below hb, h.mnt.below hb, h.map.below hb, h.fine, h.vol⟩
theorem Mnq.types {w : World} {d L v B n S : Nat} {s : Dsk} {ms : List (List UInt8)} (h : Mnq w d L v B n s S ms) : ∀ g ∈ [d, L, v], ∃ t cs, Blk w g t cs ∧ t ≠ 5 ∧ t ≠ 32 ∧ t ≠ 113 ∧ t ≠ 83 := by
 intro g hg
 obtain ⟨⟨c1, h1⟩, c2, h2⟩ := h.D.typed
 rcases List.mem_cons.1 hg with rfl | hg
 ·exact ⟨_, _, h1, by decide, by decide, by decide, by decide⟩
 rcases List.mem_cons.1 hg with rfl | hg
 ·exact ⟨_, _, h2, by decide, by decide, by decide, by decide⟩
 rw [List.mem_singleton] at hg
 subst hg
 exact ⟨_, _, h.V, by decide, by decide, by decide, by decide⟩
theorem Mnq.notx {w : World} {d L v B n S x : Nat} {s : Dsk} {ms : List (List UInt8)} {cs : Array Value} (h : Mnq w d L v B n s S ms) (hx : Blk w x 83 cs) : x ∉ [d, L, v] := fun hm => by
 obtain ⟨t, c2, h1, _, _, _, h5⟩ := h.types x hm
 exact absurd rfl (hx.ne_ h1 (fun e => h5 e.symm))
theorem Mnq.notb {w : World} {d L v B n S b : Nat} {s : Dsk} {ms : List (List UInt8)} {M : List SRec} (h : Mnq w d L v B n s S ms) (hb : RMap w b M) : b ∉ [d, L, v] := fun hm => by
 obtain ⟨t, c2, h1, _⟩ := h.types b hm
 obtain ⟨f, hf, _⟩ := hb.map
 exact hf.ne h1 rfl
theorem Mnq.rows {w : World} {d L v B n S : Nat} {s : Dsk} {ms : List (List UInt8)} (h : Mnq w d L v B n s S ms) : ∀ g ∈ [d, L, v], NoRow w g ∨ w.heap.size ≤ g := fun g hg => by
 obtain ⟨t, c2, h1, h2, _⟩ := h.types g hg
 exact .inl (h1.noRow h2)
theorem schg_mem {M : List SRec} {x : Int} {d : Bool} {l : List UInt8} {q : SRec} (h : q ∈ schg M x d l) : q ∈ M ∨ (d = false ∧ q = (x, l)) := by
 unfold schg at h
 cases d with
 | true => exact .inl (List.mem_filter.1 h).1
 | false =>
  rcases sput_mem h with h | h
  ·exact .inr ⟨rfl, h⟩
  ·exact .inl h
theorem schgs_fine {M : List SRec} {cs : List PC} (hM : ∀ p ∈ M, (1 ≤ p.1 ∧ p.1 ≤ 65535) ∧ p.2.length ≤ 16384) (hok : cs.all okC = true) : ∀ p ∈ schgs M cs, (1 ≤ p.1 ∧ p.1 ≤ 65535) ∧ p.2.length ≤ 16384 := by
 induction cs generalizing M with
 | nil => exact hM
 | cons c cs ih =>
  rw [List.all_cons, Bool.and_eq_true] at hok
  refine ih (fun p hp => ?_) hok.2
  rcases schg_mem hp with hp | ⟨hd, rfl⟩
  ·exact hM p hp
  ·have := hok.1
   unfold okC at this
   rw [hd] at this
   simp at this
   exact ⟨this.1, this.2⟩
theorem room_fits {M : List SRec} {S : Nat} (h : sload M ≤ 64 * S) (hS : 64 ≤ S) : (pagesB M).length ≤ 256 * ((S - 8) / 2) := by
 have := pagesB_len M
 omega
def ComRes (w : World) (x v d L b n S : Nat) (s : Dsk) (ms : List (List UInt8)) (M M' : List SRec) (e : Ending) (w' : World) : Prop :=
 ∃ ok s' b', s.turnW headB n (after ms (putsP ms (pagesB M') (pageN (pagesB M')))) = (ok, s') ∧ e = .returned (.int .i64 (if ok then 0 else 48)) ∧ DkAt w' d L s' ∧ VolB w' v d ((S - 8) / 2) (if ok then n + 1 else n) (!ok) ∧
  Blk w' x 83 #[.pointer (some ⟨v, 0, none⟩), .int .i64 ((64 * S : Nat) : Int), .map (some (if ok then b' else b)), .bool (!ok)] ∧ RMap w' b' M' ∧ RMap w' b M ∧ w.heap.size ≤ b' ∧ KAt w' ∧ Turn [x, d, L, v] w w'
theorem KAt.mnq {w w' : World} (h : KAt w) {d L v B n S : Nat} {s : Dsk} {ms : List (List UInt8)} (hM : Mnq w d L v B n s S ms) (ht : Turn [d, L, v] w w') : KAt w' := by
 obtain ⟨xs, h1, h2, h3, h4, _⟩ := hM.D
 have hk := h.2 0 _ (show kTab[0]? = some (kTab.getD 0 0) from rfl)
 have key : ∀ g : Nat, g = 1 → w.cell? ⟨g, 0, none⟩ = some (U64 (kTab.getD 0 0)) := fun g hg => by rw [hg]; exact hk
 refine h.turn ht (fun hm => ?_)
 rw [List.mem_cons, List.mem_cons, List.mem_singleton] at hm
 rcases hm with e | e | e
 ·have hk := key d e.symm
  rw [h1.cell] at hk
  cases hk
 ·obtain ⟨x, hx⟩ : ∃ x, xs[0]? = some x := ⟨_, List.getElem?_eq_getElem (by rw [h3.1]; exact h4)⟩
  obtain ⟨A1, n1, c1, e1⟩ := (h3.2 0 x _ hx (List.getElem?_eq_getElem h4)).1.slice
  have h0 := (encS_get xs 0 x hx).1
  rw [Nat.zero_mul] at h0
  have hk := key L e.symm
  rw [h2.cell, List.getElem?_toArray, h0, e1] at hk
  cases hk
 ·have hk := key v e.symm
  rw [hM.V.cells.1] at hk
  cases hk
theorem Mnq.commit {w w0 : World} {d L v B n S k K n4 c4 : Nat} {s : Dsk} {ms : List (List UInt8)} {b : List UInt8} {A4 : Option Addr} {ps : List PutV} (h : Mnq w d L v B n s S ms) (hB : (S - 8) / 2 = B) (hK : KAt w) (hn : n ≤ 100) (hf : FOk s k) (hk : k < 10000)
  (hP : PuI w0 w ms b K A4 n4 c4 ps) (hk1 : 1 ≤ K) (hkB : K ≤ B) (ok : Bool) (s' : Dsk) (hs : s.turnW headB n (after ms (putsP ms b K)) = (ok, s')) :
  Calls Tryz.prog 34 #[.pointer (some ⟨v, 0, none⟩), .slice A4 n4 c4] w fun e w' => e = .returned (.int .i64 (if ok then 0 else 48)) ∧ DkAt w' d L s' ∧ VolB w' v d B (if ok then n + 1 else n) (!ok) ∧ Turn [d, L, v] w w' := by
 refine (commit_two v d L B n k _ A4 n4 c4 ps s ms w h.V h.D hK hP.own h.G (by rw [h.sn, hB]) (by omega) hf (by omega)).mono ?_
 rintro e w' (⟨hx, _⟩ | ⟨_, hx, _⟩ | ⟨_, _, rfl, hD5, hV5, hT5⟩)
 ·rw [hP.may hkB] at hx; cases hx
 ·have := hP.pos hk1; rw [hx] at this; simp at this
 ·rw [hP.is, hs] at hD5 hV5 ⊢
  exact ⟨rfl, hD5, hV5, hT5⟩
theorem com_fin {w w8 w9 : World} {x v d L b b' n S j : Nat} {s s' : Dsk} {ms : List (List UInt8)} {M M' : List SRec} {ok : Bool} {u : Value} (hq : Stq w8 x v d L b n S s ms M) (hO : Old w w8) (hK : KAt w) (hx : x < w.heap.size) (hb' : w.heap.size ≤ b')
  (hM' : RMap w8 b' M') (hts : s.turnW headB n (after ms (putsP ms (pagesB M') (pageN (pagesB M')))) = (ok, s')) (hD : DkAt w9 d L s') (hV : VolB w9 v d ((S - 8) / 2) (if ok then n + 1 else n) (!ok)) (hT : Turn [d, L, v] w8 w9)
  (hu : (#[.pointer (some ⟨v, 0, none⟩), .int .i64 ((64 * S : Nat) : Int), .map (some b), .bool false] : Array Value).setIfInBounds j u = #[.pointer (some ⟨v, 0, none⟩), .int .i64 ((64 * S : Nat) : Int), .map (some (if ok then b' else b)), .bool (!ok)]) :
  ComRes w x v d L b n S s ms M M' (.returned (.int .i64 (if ok then 0 else 48))) (w9.setCell ⟨x, j, none⟩ u) := by
 have hnx := hq.mnt.notx hq.blk
 have hbx9 := hq.blk.turn hT hnx
 have hTx : Turn [x] w9 (w9.setCell ⟨x, j, none⟩ u) := (Turn.refl _ _).setCell (.inl (by simp)) _
 have hM9 := hM'.turn hT (hq.mnt.notb hM') hq.mnt.rows
 have hMb9 := hq.map.turn hT (hq.mnt.notb hq.map) hq.mnt.rows
 have hK9 : KAt w9 := (hK.below hO).mnq hq.mnt hT
 have hxr : ∀ g ∈ [x], NoRow w9 g ∨ w9.heap.size ≤ g := fun g hg => by rw [List.mem_singleton] at hg; subst hg; exact .inl (hbx9.noRow (by decide))
 have hne : ∀ {b M}, RMap w9 b M → b ∉ [x] := fun h hm => by
  rw [List.mem_singleton] at hm
  subst hm
  obtain ⟨f, hf, _⟩ := h.map
  exact hf.ne hbx9 rfl
 refine ⟨ok, s', b', hts, rfl, hD.turn hTx (fun e => hnx (by simp at e; simp [e])) (fun e => hnx (by simp at e; simp [e])) (fun g hg => by rw [List.mem_singleton] at hg; subst hg; exact ⟨_, _, hbx9, by decide⟩), Blk.turn hV hTx (fun e => hnx (by simp at e; simp [e])), ?_, hM9.turn hTx (hne hM9) hxr, hMb9.turn hTx (hne hMb9) hxr, hb', ?_, ?_⟩
 ·rw [← hu]
  exact hbx9.set_ j u
 ·refine hK9.turn hTx (fun hm => ?_)
  have hk := hK9.2 0 _ (show kTab[0]? = some (kTab.getD 0 0) from rfl)
  rw [List.mem_singleton] at hm
  rw [hm, hbx9.cell] at hk
  cases hk
 ·have h1 : Turn [x, d, L, v] w w9 := (Turn.of_below [x, d, L, v] hO).trans hT (fun y hy => .inl (by simp at hy ⊢; exact .inr hy))
  exact h1.trans hTx (fun y hy => .inl (by simp at hy ⊢; exact .inl hy))
set_option maxHeartbeats 4000000 in
theorem stcommit_gen {w : World} {x v d L b n S k : Nat} {s : Dsk} {ms : List (List UInt8)} {M : List SRec} (h : Stq w x v d L b n S s ms M) (A : Option Addr) (m c : Nat) (cs : List PC) (hC : ChsAt w A m cs) (hm0 : 0 < m) (hm : m ≤ 4096) (hok : cs.all okC = true)
  (hld : sload (schgs M cs) ≤ 64 * S) (hK : KAt w) (hn : n ≤ 99) (hf : FOk s k) (hk : k < 10000) (h0 : 64 ≤ S) (h1 : S ≤ 1000) (hN : M.length ≤ 90000) (hlen : ∀ q ∈ cs, q.l.length ≤ 100000) :
  Calls Tryz.prog 14 #[.pointer (some ⟨x, 0, none⟩), .slice A m c] w (ComRes w x v d L b n S s ms M (schgs M cs)) := by
 have hmy := stmay_any x A m c cs w hC hm
 rw [hok] at hmy
 obtain ⟨M', hM'⟩ : ∃ M', schgs M cs = M' := ⟨_, rfl⟩
 have hr' : Rising M' := by rw [← hM']; exact schgs_rise h.map.rise cs
 have hF' : Fine M' := by
  have := schgs_fine (M := M) (cs := cs) (fun p hp => ⟨h.fine.ids p hp, h.fine.len p hp⟩) hok
  rw [hM'] at this
  exact ⟨fun p hp => (this p hp).1, fun p hp => (this p hp).2, by rw [← hM']; omega⟩
 have hN' : M'.length ≤ 100000 := by
  have := schgs_len h.map.rise cs
  rw [hM'] at this
  have := hC.rd.1
  omega
 have hbh : ∀ w1, Old w w1 → Calls Tryz.prog 41 #[.pointer (some ⟨x, 0, none⟩), .slice A m c] w1 (BehRes w1 M') := fun w1 ho => by
  rw [← hM']
  exact behind_any x b _ _ _ M A m c cs w1 (h.blk.below ho) (h.map.below ho) (hC.below ho) hm (by omega) hlen
 rw [hM'] at hld ⊢
 have t0 : ((m : Int) == 0) = false := by simp; omega
 have HV := Lib.hid (And.intro h (And.intro hr' (And.intro hF' (And.intro hN' (And.intro hld (And.intro hK (And.intro hn (And.intro hf (And.intro hk (And.intro h0 h1))))))))))
 clear h hr' hF' hN' hld hK hn hf hk h0 h1 hok hC hN hlen hm0 hm hM'
 obtain ⟨TG, hTG⟩ : ∃ TG : Ending → World → Prop, ComRes w x v d L b n S s ms M M' = TG := ⟨_, rfl⟩
 rw [hTG]
 go_enter Tryz.func14, Tryz.ntmps14
 go_wp2_with (first
  | (go_at_call 40; refine hmy.mono ?_; rintro e w1 ⟨rfl, hO1⟩)
  | (go_at_call 41; refine (hbh _ hO1).mono ?_; rintro e w2 ⟨b', rfl, hM2, hb2, hO2⟩; have H2 := Lib.hid (And.intro hM2 (And.intro hb2 (And.intro (Old.trans hO1 hO2) hO1))); clear hM2 hb2 hO2))
 clear hmy hbh
 have hq2 := HV.out.1.below H2.out.2.2.1
 have z0 := hq2.blk.cell 0
 have z1 := hq2.blk.cell 1
 have z3 := hq2.blk.cell 3
 simp only [List.getElem?_toArray, List.getElem?_cons_succ, List.getElem?_cons_zero] at z0 z1 z3
 obtain ⟨R, hR⟩ : ∃ R, ((64 * S : Nat) : Int) = R := ⟨_, rfl⟩
 obtain ⟨ld, hld⟩ : ∃ ld, sload M' = ld := ⟨_, rfl⟩
 have tl : ¬ R < (ld : Int) := by have := HV.out.2.2.2.2.1; omega
 have hli : ∀ W, Old w2 W → Calls Tryz.prog 42 #[.map (some b')] W fun e w' => e = .returned (.int .i64 (ld : Int)) ∧ Old W w' := fun W ho => by
  rw [← hld]
  exact stload_any b' M' W (H2.out.1.below ho) (by have := HV.out.2.2.1.load; omega)
 rw [hR] at z1
 have HZ := Lib.hid (And.intro z0 (And.intro z1 (And.intro z3 hq2)))
 have HR := Lib.hid hR
 clear z0 z1 z3 hq2 hR hld
 refine region_old (by kernel_rfl) (fun wd hHeld hSz => ?_)
 have HSz := Lib.hid hSz
 clear hSz
 refine tkS 0 hHeld ?_
 refine tkS 2 hHeld ?_
 refine tkS 3 hHeld ?_
 refine tkS 4 hHeld ?_
 refine tkS 5 hHeld ?_ (hy := by intro wq hSw; have y1 := cell_old hSw HZ.out.2.1; clear hSw; go_simp; try with_reducible rfl)
 refine rdL 1 (fun K hK => ?_)
 go_simp
 refine (hli _ hHeld).mono ?_
 rintro e w4 ⟨rfl, hO4⟩
 refine hK.out _ _ (Old.trans hHeld hO4) (fun hHeld => ?_)
 clear hK K
 try simp only [Act.put, sA, sB, sC]
 refine tkS 6 hHeld ?_
 refine tkS 7 hHeld ?_
 refine wpAnyH_done (by kernel_rfl) ?_ _
 refine NoPanic.normal ?_
 try simp only [Exit.then]
 try go_at_K
 have z3 := cell_old hHeld HZ.out.2.2.1
 have H3 := Lib.hid (And.intro hHeld (HZ.out.2.2.2.below hHeld))
 clear hHeld
 go_wp2_with fail
 obtain ⟨ok, s', hts⟩ : ∃ ok s', s.turnW headB n (after ms (putsP ms (pagesB M') (pageN (pagesB M')))) = (ok, s') := ⟨_, _, rfl⟩
 have HT := Lib.hid hts
 clear hts z3
 refine region_turnV [d, L, v] (by kernel_rfl) (fun wd hOld hHeld hSz => ?_)
 have hO1 := hOld
 clear hOld hSz
 refine tkS 0 hHeld ?_
 refine tkS 1 hHeld ?_
 refine tkS 2 hHeld ?_
 refine tkS 3 hHeld ?_ (hy := by intro wq hSw; have y0 := cell_turn (cell_old H3.out.1 HZ.out.1) hSw (H3.out.2.mnt.notx H3.out.2.blk); clear hSw; go_simp; try with_reducible rfl)
 refine tkS 4 hHeld ?_
 refine tkS 5 hHeld ?_
 refine tkS 6 hHeld ?_
 refine tkS 7 hHeld ?_ (hy := by intro wq hSw; have y0 := cell_turn (cell_old H3.out.1 HZ.out.1) hSw (H3.out.2.mnt.notx H3.out.2.blk); clear hSw; go_simp; try with_reducible rfl)
 refine tkS 8 hHeld ?_
 refine rdL 9 (fun K hK => ?_)
 go_simp
 refine (pages_any (some b') M' _ (.inr ⟨b', rfl, (H2.out.1.below H3.out.1).below hO1⟩) HV.out.2.2.1 HV.out.2.2.2.1).mono ?_
 rintro e w7 ⟨A7, n7, c7, rfl, hO7, hb7⟩
 refine hK.out _ _ (hHeld.trans (Turn.of_below [] hb7) (by simp)) (fun hHeld => ?_)
 clear hK K
 try simp only [Act.put, sA, sB, sC]
 refine rdL 10 (fun K hK => ?_)
 go_simp
 have hmq7 := (H3.out.2.mnt.below hO1).below hb7
 refine (stputs_any hmq7 rfl (by have := HV.out.2.2.2.2.2.2; omega) A7 n7 c7 _ hO7.rd (by rw [hO7.len]; exact room_fits HV.out.2.2.2.2.1 (by have := HV.out.2.2.2.2.2.2; omega)) (by have := HV.out.2.2.2.2.2.2; omega)).mono ?_
 rintro e w8 ⟨A8, n8, c8, ps, rfl, hP8⟩
 refine hK.out _ _ (hHeld.trans (Turn.of_below [] hP8.old) (by simp)) (fun hHeld => ?_)
 clear hK K
 try simp only [Act.put, sA, sB, sC]
 refine rdL 11 (fun K hK => ?_)
 go_simp
 have hO8 := Old.trans (Old.trans hO1 hb7) hP8.old
 refine (Mnq.commit (hmq7.below hP8.old) rfl (((HV.out.2.2.2.2.2.1.below H2.out.2.2.1).below H3.out.1).below hO8) (by have := HV.out.2.2.2.2.2.2; omega) HV.out.2.2.2.2.2.2.2.1 HV.out.2.2.2.2.2.2.2.2.1 hP8 pageN_pos (by have := room_fits HV.out.2.2.2.2.1 (by have := HV.out.2.2.2.2.2.2; omega); unfold pageN; omega) ok s' HT.out).mono ?_
 rintro e w9 ⟨rfl, hD9, hV9, hT9⟩
 refine hK.out _ _ (hHeld.trans hT9 (fun x hx => .inl hx)) (fun hHeld => ?_)
 clear hK K
 try simp only [Act.put, sA, sB, sC]
 refine tkS 12 hHeld ?_
 refine wpAnyH_done (by kernel_rfl) ?_ _
 refine NoPanic.normal ?_
 try simp only [Exit.then]
 try go_at_K
 have hq8 := H3.out.2.below hO8
 have hbx := hq8.blk.turn hT9 (hq8.mnt.notx hq8.blk)
 have y0 := hbx.cell 0
 have y2 := hbx.cell 2
 have y3 := hbx.cell 3
 have f2 := hbx.frozen 2
 have f3 := hbx.frozen 3
 simp only [List.getElem?_toArray, List.getElem?_cons_succ, List.getElem?_cons_zero] at y0 y2 y3
 have HF := Lib.hid (fun u j hu => com_fin (u := u) (j := j) hq8 (Old.trans (Old.trans H2.out.2.2.1 H3.out.1) hO8) HV.out.2.2.2.2.2.1 HV.out.1.blk.lt (Nat.le_trans H2.out.2.2.2.size H2.out.2.1) ((H2.out.1.below H3.out.1).below hO8) HT.out hD9 hV9 hT9 hu)
 clear hq8 hbx hD9 hV9 hT9 hO8 hP8 hmq7 hO7 hb7 hHeld hO1 tl HSz hli
 cases ok with
 | true =>
  go_wp2_with fail
  rw [← hTG]
  exact HF.out _ 2 rfl
 | false =>
  go_wp2_with fail
  rw [← hTG]
  exact HF.out _ 3 rfl
end Go.Proofs.YtgjnmpjimhbfgaaGreatDoor
namespace Go.Proofs.YtgjnmpjimhbfgaaGreatDoor
set_option maxRecDepth 100000
open Go.RowKit Go.Maps
def RvOld (w : World) (r : Int) (e : Ending) (w' : World) : Prop := e = .returned (.int .i64 r) ∧ Old w w'
theorem stcommit_bad (x : Nat) (A : Option Addr) (m c : Nat) (cs : List PC) (w : World) (hC : ChsAt w A m cs) (hm : m ≤ 4096) (hok : cs.all okC = false) : Calls Tryz.prog 14 #[.pointer (some ⟨x, 0, none⟩), .slice A m c] w (RvOld w 7) := by
 have hmy := stmay_any x A m c cs w hC hm
 rw [hok] at hmy
 obtain ⟨TG, hTG⟩ : ∃ TG : Ending → World → Prop, RvOld w 7 = TG := ⟨_, rfl⟩
 rw [hTG]
 clear hC hok
 go_enter Tryz.func14, Tryz.ntmps14
 go_wp2_with (go_at_call 40; refine hmy.mono ?_; rintro e w1 ⟨rfl, hO⟩)
 rw [← hTG]
 exact ⟨rfl, hO⟩
theorem stcommit_none (x : Nat) (A : Option Addr) (c : Nat) (w : World) (hC : ChsAt w A 0 []) : Calls Tryz.prog 14 #[.pointer (some ⟨x, 0, none⟩), .slice A 0 c] w (RvOld w 0) := by
 have hmy := stmay_any x A 0 c [] w hC (by omega)
 rw [show ([] : List PC).all okC = true from rfl] at hmy
 obtain ⟨TG, hTG⟩ : ∃ TG : Ending → World → Prop, RvOld w 0 = TG := ⟨_, rfl⟩
 rw [hTG]
 clear hC
 go_enter Tryz.func14, Tryz.ntmps14
 go_wp2_with (go_at_call 40; refine hmy.mono ?_; rintro e w1 ⟨rfl, hO⟩)
 rw [← hTG]
 exact ⟨rfl, hO⟩
set_option maxHeartbeats 4000000 in
theorem stcommit_full {w : World} {x b S : Nat} {v br : Value} {M : List SRec} (hx : Blk w x 83 #[v, .int .i64 ((64 * S : Nat) : Int), .map (some b), br]) (hM : RMap w b M) (A : Option Addr) (m c : Nat) (cs : List PC) (hC : ChsAt w A m cs) (hm0 : 0 < m) (hm : m ≤ 4096) (hok : cs.all okC = true)
  (hld : 64 * S < sload (schgs M cs)) (hl9 : sload (schgs M cs) ≤ 1000000000) (hN : M.length ≤ 90000) (hlen : ∀ q ∈ cs, q.l.length ≤ 100000) :
  Calls Tryz.prog 14 #[.pointer (some ⟨x, 0, none⟩), .slice A m c] w (RvOld w 49) := by
 have hmy := stmay_any x A m c cs w hC hm
 rw [hok] at hmy
 obtain ⟨M', hM'⟩ : ∃ M', schgs M cs = M' := ⟨_, rfl⟩
 have hbh : ∀ w1, Old w w1 → Calls Tryz.prog 41 #[.pointer (some ⟨x, 0, none⟩), .slice A m c] w1 (BehRes w1 M') := fun w1 ho => by
  rw [← hM']
  exact behind_any x b _ _ _ M A m c cs w1 (hx.below ho) (hM.below ho) (hC.below ho) hm (by omega) hlen
 rw [hM'] at hld hl9
 have t0 : ((m : Int) == 0) = false := by simp; omega
 have z1 := hx.cell 1
 simp only [List.getElem?_toArray, List.getElem?_cons_succ, List.getElem?_cons_zero] at z1
 obtain ⟨R, hR⟩ : ∃ R, ((64 * S : Nat) : Int) = R := ⟨_, rfl⟩
 obtain ⟨ld, hldd⟩ : ∃ ld, sload M' = ld := ⟨_, rfl⟩
 have tl : R < (ld : Int) := by omega
 rw [hR] at z1
 have hli : ∀ b' W, RMap W b' M' → Calls Tryz.prog 42 #[.map (some b')] W fun e w' => e = .returned (.int .i64 (ld : Int)) ∧ Old W w' := fun b' W ho => by
  rw [← hldd]
  exact stload_any b' M' W ho hl9
 have HZ := Lib.hid z1
 clear hok hC hN hlen hm0 hm hM' hx hM hld hl9 hR hldd z1
 obtain ⟨TG, hTG⟩ : ∃ TG : Ending → World → Prop, RvOld w 49 = TG := ⟨_, rfl⟩
 rw [hTG]
 go_enter Tryz.func14, Tryz.ntmps14
 go_wp2_with (first
  | (go_at_call 40; refine hmy.mono ?_; rintro e w1 ⟨rfl, hO1⟩)
  | (go_at_call 41; refine (hbh _ hO1).mono ?_; rintro e w2 ⟨b', rfl, hM2, hb2, hO2⟩; have H2 := Lib.hid (And.intro hM2 (Old.trans hO1 hO2)); clear hM2 hb2 hO2))
 clear hmy hbh
 refine region_old (by kernel_rfl) (fun wd hHeld hSz => ?_)
 have HSz := Lib.hid hSz
 clear hSz
 refine tkS 0 hHeld ?_
 refine tkS 2 hHeld ?_
 refine tkS 3 hHeld ?_
 refine tkS 4 hHeld ?_
 refine tkS 5 hHeld ?_ (hy := by intro wq hSw; have y1 := cell_old (Old.trans H2.out.2 hSw) HZ.out; clear hSw; go_simp; try with_reducible rfl)
 refine rdL 1 (fun K hK => ?_)
 go_simp
 refine (hli b' _ (H2.out.1.below hHeld)).mono ?_
 rintro e w4 ⟨rfl, hO4⟩
 refine hK.out _ _ (Old.trans hHeld hO4) (fun hHeld => ?_)
 clear hK K
 try simp only [Act.put, sA, sB, sC]
 refine tkS 6 hHeld ?_
 refine tkS 7 hHeld ?_
 refine wpAnyH_done (by kernel_rfl) ?_ _
 refine NoPanic.normal ?_
 try simp only [Exit.then]
 try go_at_K
 go_wp2_with fail
 rw [← hTG]
 exact ⟨rfl, Old.trans H2.out.2 hHeld⟩
end Go.Proofs.YtgjnmpjimhbfgaaGreatDoor
