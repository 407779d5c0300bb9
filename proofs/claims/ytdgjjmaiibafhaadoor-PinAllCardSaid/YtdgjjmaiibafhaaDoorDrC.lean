/-
  A drawn region whose last operation stores over what the others load: the word is asked of all operations but the last.
  The tape: the reference's hmac, update.
  The tape: Bytes, New of the reference.
  The tape: New of the reference.
-/
import Derived.Test.YtdgjjmaiibafhaaDoorReg
import Derived.Test.YtdgjjmaiibafhaaDoorDrB
namespace Go.Proofs.YtdgjjmaiibafhaaDoor
open Go.RowKit

section
variable {P : Program} {ops : Array Oper} {Q : Exit → Act → World → Prop} {md : Region.Mode} {S : World → Prop}
/-- Whatever order is picked, S holds behind every operation but number z. -/
def wpAnyT (P : Program) (md : Region.Mode) (ops : Array Oper) (Q : Exit → Act → World → Prop) (S : World → Prop) (z : Nat) : Nat → Array Bool → Act → World → Prop
  | 0, listed, a, w => Region.ready md ops listed = [] ∧ Q .normal a w
  | fuel + 1, listed, a, w =>
    (Region.ready md ops listed = [] → Q .normal a w) ∧
    ∀ i ∈ Region.ready md ops listed, wpOp P ops Q i (fun a' w' => (i ≠ z → S w') ∧ wpAnyT P md ops Q S z fuel (listed.setIfInBounds i true) a' w') a w
theorem wpAny_of_T {z : Nat} : ∀ (fuel : Nat) (listed : Array Bool) (a : Act) (w : World), wpAnyT P md ops Q S z fuel listed a w → wpAny P md ops Q fuel listed a w
  | 0, _, _, _, h => h
  | fuel + 1, _, _, _, h => ⟨h.1, fun i hi => wpOp_mono (fun a' w' h' => wpAny_of_T fuel _ a' w' h'.2) (h.2 i hi)⟩
/-- Number z waits for number i. -/
def waitsOn (md : Region.Mode) (ops : Array Oper) (z i : Nat) : Bool := match ops[z]? with
  | some o => o.after.toList.any fun e => Region.binds md e && (e.on == i)
  | none => true
theorem waitsOn_spec {z i : Nat} (h : waitsOn md ops z i = true) {oz : Oper} (hz : ops[z]? = some oz) : ∃ e ∈ oz.after, Region.binds md e = true ∧ e.on = i := by
  unfold waitsOn at h
  rw [hz] at h
  simp only [List.any_eq_true, Bool.and_eq_true, beq_iff_eq] at h
  obtain ⟨e, he, h1, h2⟩ := h
  exact ⟨e, by simpa using he, h1, h2⟩
theorem wpAnyT_first {z i : Nat} {oi : Oper} {v : Value} (hz : waitsOn md ops z i = true) (hi : ops[i]? = some oi) (hsel : ∀ (j : Nat) (o : Oper) cs b, ops[j]? = some o → o.op ≠ .select cs b)
    (hQ : ∀ c a w, Q (.panic c) (a.put oi.dst v) w → Q (.panic c) a w) :
    ∀ (fuel : Nat) (listed : Array Bool) (a : Act) (w : World),
      (∀ j oj, ops[j]? = some oj → j ≠ i → listed.getD j true = false → (∀ e ∈ oj.after, Region.binds md e = true → e.on ≠ i) → oi.apart ops oj = true) →
      i ∈ Region.ready md ops listed → YieldsIf P ops S oi v a → S w →
      wpAnyT P md ops Q S z fuel (listed.setIfInBounds i true) (a.put oi.dst v) w → wpAnyT P md ops Q S z (fuel + 1) listed a w := by
  intro fuel
  induction fuel with
  | zero =>
    intro listed a w _ hr hy hS H
    refine ⟨fun h => (by rw [h] at hr; cases hr), fun j hj => ?_⟩
    by_cases hji : j = i
    · subst hji; exact hy.wpOp hi hS ⟨fun _ => hS, H⟩
    · have := ready_mono hj hji
      rw [H.1] at this
      cases this
  | succ fuel ih =>
    intro listed a w hfree hr hy hS H
    refine ⟨fun h => (by rw [h] at hr; cases hr), fun j hj => ?_⟩
    by_cases hji : j = i
    · subst hji; exact hy.wpOp hi hS ⟨fun _ => hS, H⟩
    · have h1 := H.2 j (ready_mono hj hji)
      obtain ⟨hjun, oj, hoj, hall⟩ := mem_ready.1 hj
      have hnot : ∀ e ∈ oj.after, Region.binds md e = true → e.on ≠ i := fun e he hb heq => by
        have h1 := hall e he hb
        have h0 := (mem_ready.1 hr).1
        rw [heq] at h1
        rcases Nat.lt_or_ge i listed.size with h' | h'
        · simp [h'] at h0 h1; rw [h0] at h1; cases h1
        · simp [Array.getElem?_eq_none h'] at h1
      have hjz : j ≠ z := fun e => by
        subst e
        obtain ⟨e, he, hb, hon⟩ := waitsOn_spec hz hoj
        exact hnot e he hb hon
      have h2 := wpOp_putIf hoj (hfree j oj hoj hji hjun hnot) (fun cs b => hsel i oi cs b hi) (fun cs b => hsel j oj cs b hoj) hQ hy h1
      have hfree' : ∀ k ok, ops[k]? = some ok → k ≠ i → (listed.setIfInBounds j true).getD k true = false →
          (∀ e ∈ ok.after, Region.binds md e = true → e.on ≠ i) → oi.apart ops ok = true := fun k ok hk hki hun hno => by
        refine hfree k ok hk hki ?_ hno
        by_cases hjk : j = k
        · subst hjk; exact hjun
        · rw [getD_set_ne true hjk] at hun; exact hun
      refine wpOp_mono (fun a' w' h3 => ⟨h3.2.1, ih (listed.setIfInBounds j true) a' w' hfree' (ready_mono hr (Ne.symm hji)) h3.1 (h3.2.1 hjz) ?_⟩) h2
      rw [Array.setIfInBounds_comm _ _ hji]
      exact h3.2.2
theorem takeZ {z i : Nat} {oi : Oper} {v : Value} {fuel : Nat} {listed : Array Bool} {a : Act} {w : World} (hz : waitsOn md ops z i = true) (hi : ops.toList[i]? = some oi)
    (hs : Region.noSelect ops = true) (hf : Region.free md ops listed i = true) (hr : (Region.ready md ops listed).contains i = true)
    (hQ : ∀ c a w, Q (.panic c) (a.put oi.dst v) w → Q (.panic c) a w) (hy : YieldsIf P ops S oi v a) (hS : S w)
    (h : wpAnyT P md ops Q S z fuel (listed.setIfInBounds i true) (a.put oi.dst v) w) : wpAnyT P md ops Q S z (fuel + 1) listed a w :=
  wpAnyT_first hz (by simpa using hi) (Region.noSelect_spec hs) hQ fuel listed a w (Region.free_spec (by simpa using hi) hf) (by simpa using hr) hy hS h
def AllReadyT (P : Program) (md : Region.Mode) (ops : Array Oper) (Q : Exit → Act → World → Prop) (S : World → Prop) (z : Nat) (fuel : Nat) (listed : Array Bool) (a : Act) (w : World) (rs : List Nat) : Prop :=
  ∀ i ∈ rs, wpOp P ops Q i (fun a' w' => (i ≠ z → S w') ∧ wpAnyT P md ops Q S z fuel (listed.setIfInBounds i true) a' w') a w
theorem AllReadyT.nil {z fuel : Nat} {listed : Array Bool} {a : Act} {w : World} : AllReadyT P md ops Q S z fuel listed a w [] := fun _ h => by cases h
theorem wpAnyT_ready {z : Nat} {rs : List Nat} {fuel : Nat} {listed : Array Bool} {a : Act} {w : World} (hr : Region.ready md ops listed = rs) (hne : rs ≠ [])
    (h : AllReadyT P md ops Q S z fuel listed a w rs) : wpAnyT P md ops Q S z (fuel + 1) listed a w := ⟨fun h0 => absurd (hr ▸ h0) hne, hr ▸ h⟩
theorem consZ {z fuel : Nat} {listed : Array Bool} {a : Act} {w : World} {i : Nat} {o : Oper} {rs : List Nat} (ho : ops.toList[i]? = some o)
    (h : ∀ K' : Act → World → Prop, Shut (∀ a w, S w → (S w → wpAnyT P md ops Q S z fuel (listed.setIfInBounds i true) a w) → K' a w) → if Region.wanted o (yielded ops a.tmps) = true then Oper.wp P o a w K' Q else K' (a.put o.dst undef) w)
    (hs : AllReadyT P md ops Q S z fuel listed a w rs) : AllReadyT P md ops Q S z fuel listed a w (i :: rs) := fun j hj => by
  rcases List.mem_cons.1 hj with rfl | hj
  · exact wpOp_step (by simpa using ho) (fun K' hK => h K' (fun a w hS hW => hK a w ⟨fun _ => hS, hW hS⟩))
  · exact hs j hj
/-- The last one: S is not asked behind it. -/
theorem consZl {z fuel : Nat} {listed : Array Bool} {a : Act} {w : World} {o : Oper} {rs : List Nat} (ho : ops.toList[z]? = some o)
    (h : ∀ K' : Act → World → Prop, Shut (∀ a w, wpAnyT P md ops Q S z fuel (listed.setIfInBounds z true) a w → K' a w) → if Region.wanted o (yielded ops a.tmps) = true then Oper.wp P o a w K' Q else K' (a.put o.dst undef) w)
    (hs : AllReadyT P md ops Q S z fuel listed a w rs) : AllReadyT P md ops Q S z fuel listed a w (z :: rs) := fun j hj => by
  rcases List.mem_cons.1 hj with rfl | hj
  · exact wpOp_step (by simpa using ho) (fun K' hK => h K' (fun a w hW => hK a w ⟨fun hn => absurd rfl hn, hW⟩))
  · exact hs j hj
theorem wpAnyT_done {z : Nat} {listed : Array Bool} {a : Act} {w : World} (hr : Region.ready md ops listed = []) (h : Q .normal a w) :
    ∀ fuel, wpAnyT P md ops Q S z fuel listed a w
  | 0 => ⟨hr, h⟩
  | _ + 1 => ⟨fun _ => h, by rw [hr]; simp⟩
theorem wpAnyT_mono {z : Nat} {S' : World → Prop} (h : ∀ w, S' w → S w) :
    ∀ (fuel : Nat) (listed : Array Bool) (a : Act) (w : World), wpAnyT P md ops Q S' z fuel listed a w → wpAnyT P md ops Q S z fuel listed a w
  | 0, _, _, _, hw => hw
  | fuel + 1, _, _, _, hw => ⟨hw.1, fun i hi => wpOp_mono (fun a' w' h' => ⟨fun hn => h w' (h'.1 hn), wpAnyT_mono h fuel _ a' w' h'.2⟩) (hw.2 i hi)⟩
end
theorem wpAnyT_old {P : Program} {md : Region.Mode} {ops : Array Oper} {Q : Exit → Act → World → Prop} {z : Nat} {w0 w1 : World} (h01 : Old w0 w1) {fuel : Nat} {listed : Array Bool} {a : Act} {w : World}
    (h : Old w1 w → wpAnyT P md ops Q (Old w1) z fuel listed a w) (hw : Old w1 w) : wpAnyT P md ops Q (Old w0) z fuel listed a w :=
  wpAnyT_mono (fun _ h' => h01.trans h') _ _ _ _ (h hw)
theorem region_oldZ {P : Program} {ops : Array Oper} {Q : Exit → Act → World → Prop} {id : Nat} {a : Act} {w : World} (z : Nat) (hm : P.follows .mixedOrders = true)
    (h : ∀ wd, Old w wd → w.heap.size = wd.heap.size → wpAnyT P .any ops (NoPanic Q) (Old w) z ops.size (Array.replicate ops.size false) a wd) : (Code.region id ops true).wp P Q a w :=
  wp_region_noPanic (wp_region_any hm (wpAny_of_T _ _ _ _ (h w.drew (Old.drew (Old.refl w)) rfl)))
end Go.Proofs.YtdgjjmaiibafhaaDoor
namespace Go.Proofs.YtdgjjmaiibafhaaDoor
set_option maxRecDepth 100000
open Go.RowKit

theorem cellOld {w w' : World} {b o : Nat} {v : Value} (ht : Old w w') (h : w.cell? ⟨b, o, none⟩ = some v) : w'.cell? ⟨b, o, none⟩ = some v := cell_turn h (Turn.of_below [] ht) (by simp)
/-- The reference's state in memory. -/
def ErAt (w : World) (d : Nat) (s : DS) (left : Int) : Prop := ∃ A1 c1 A2 c2, Blk w d 54 #[.slice A1 32 c1, .slice A2 32 c2, .int .i64 left] ∧ Rd w A1 32 c1 s.K ∧ Rd w A2 32 c2 s.V
theorem ErAt.below {w w' : World} {d : Nat} {s : DS} {left : Int} (h : ErAt w d s left) (hb : Below w.heap.size w w') : ErAt w' d s left := by
  obtain ⟨A1, c1, A2, c2, h1, h2, h3⟩ := h
  exact ⟨A1, c1, A2, c2, h1.below hb, h2.below hb, h3.below hb⟩
theorem ErAt.noB {w : World} {d : Nat} {s : DS} {left : Int} (h : ErAt w d s left) : NoB w d := by
  obtain ⟨A1, c1, A2, c2, h1, _⟩ := h
  exact NoB.of h1 rfl
theorem ErAt.lt {w : World} {d : Nat} {s : DS} {left : Int} (h : ErAt w d s left) : d < w.heap.size := by
  obtain ⟨A1, c1, A2, c2, h1, _⟩ := h
  exact h1.lt
theorem ErAt.turn {w w' : World} {d : Nat} {s : DS} {left : Int} {S : List Nat} (h : ErAt w d s left) (ht : Turn S w w') (hd : d ∉ S) (hS : ∀ g ∈ S, NoB w g) : ErAt w' d s left := by
  obtain ⟨A1, c1, A2, c2, h1, h2, h3⟩ := h
  exact ⟨A1, c1, A2, c2, h1.turn ht hd, h2.turnN (by decide) ht hS, h3.turnN (by decide) ht hS⟩
theorem ErAt.ok {w : World} {d : Nat} {s : DS} {left : Int} (h : ErAt w d s left) : s.Ok := by
  obtain ⟨A1, c1, A2, c2, _, h2, h3⟩ := h
  exact ⟨h2.1.symm, h3.1.symm⟩
theorem rhm_any (A1 : Option Addr) (c1 : Nat) (K : List UInt8) (A : Option Addr) (m c : Nat) (ls : List (List UInt8)) (w : World) (hK : Rd w A1 32 c1 K) (hp : PartsAt w A m c ls) (hl : ls.flatten.length ≤ 140737488351500) :
    Calls Tryd.prog 37 #[.slice A1 32 c1, .slice A m c] w fun e w' => ∃ A c, e = .returned (.slice A 32 c) ∧ Rd w' A 32 c (hm K ls.flatten) ∧ Old w w' ∧ ∀ ad, A = some ad → w.heap.size ≤ ad.block := by
  have hj := join_any A m c ls w hp (by omega)
  have H := Lib.hid (And.intro hK hl)
  clear hp hl hK
  go_enter Tryd.func37, Tryd.ntmps37
  go_wp2_with fail
  refine hj.mono ?_
  rintro e w1 ⟨v, rfl, hO, hb⟩
  obtain ⟨A2, n2, c2, rfl⟩ : ∃ A2 n2 c2, v = .slice A2 n2 c2 := by
    obtain ⟨A2, c2, rfl, _⟩ := hO.shape
    exact ⟨_, _, _, rfl⟩
  have hh := rhmac_any 3 (by omega) A1 32 c1 K A2 n2 c2 ls.flatten w1 (H.out.1.below hb) (by have := H.out.1.1; omega) hO.rd H.out.2
  have H1 := Lib.hid hb
  clear hj hO hb
  go_wp2_with fail
  refine hh.mono ?_
  rintro e w2 ⟨A3, n3, c3, rfl, hO3, hb3⟩
  have hn : n3 = 32 := by
    have := hO3.len
    rw [this]
    exact hm_len32 K _ (by have := H.out.1.1; omega) H.out.2
  subst hn
  have H3 := Lib.hid (And.intro hO3.rd (And.intro (Old.trans H1.out hb3) (show ∀ ad, A3 = some ad → w.heap.size ≤ ad.block from fun ad had => Nat.le_trans H1.out.size (hO3.addr_ge ad had))))
  clear hh hO3 hb3
  go_wp2_with fail
  go_ret
  exact ⟨A3, c3, rfl, H3.out.1, H3.out.2.1, H3.out.2.2⟩
theorem rmac_three (s : DS) (A1 A2 A3 : Option Addr) (c1 c2 m3 c3 : Nat) (X : UInt8) (data : List UInt8) (w : World) (hK : Rd w A1 32 c1 s.K) (hV : Rd w A2 32 c2 s.V) (hr : Rd w A3 m3 c3 data)
    (hl : data.length ≤ 140737488351300) :
    Calls Tryd.prog 37 #[.slice A1 32 c1, .slice (some ⟨w.heap.size + 1, 0, none⟩) 3 3] ((w.alloc (.cells #[.int .u8 X.toNat] 5)).alloc (.cells #[.slice A2 32 c2, .slice (some ⟨w.heap.size, 0, none⟩) 1 1, .slice A3 m3 c3] 22)) fun e w' =>
      ∃ A c, e = .returned (.slice A 32 c) ∧ Rd w' A 32 c (hm s.K (s.V ++ [X] ++ data)) ∧ Old ((w.alloc (.cells #[.int .u8 X.toNat] 5)).alloc (.cells #[.slice A2 32 c2, .slice (some ⟨w.heap.size, 0, none⟩) 1 1, .slice A3 m3 c3] 22)) w' ∧ ∀ ad, A = some ad → w.heap.size ≤ ad.block := by
  have hO : Old w ((w.alloc (.cells #[.int .u8 X.toNat] 5)).alloc (.cells #[.slice A2 32 c2, .slice (some ⟨w.heap.size, 0, none⟩) 1 1, .slice A3 m3 c3] 22)) := ((Old.refl w).alloc _).alloc _
  have hb := Blk.new (w.alloc (.cells #[.int .u8 X.toNat] 5)) 22 #[.slice A2 32 c2, .slice (some ⟨w.heap.size, 0, none⟩) 1 1, .slice A3 m3 c3]
  rw [show (w.alloc (.cells #[.int .u8 X.toNat] 5)).heap.size = w.heap.size + 1 from by simp] at hb
  have hx : Rd ((w.alloc (.cells #[.int .u8 X.toNat] 5)).alloc (.cells #[.slice A2 32 c2, .slice (some ⟨w.heap.size, 0, none⟩) 1 1, .slice A3 m3 c3] 22)) (some ⟨w.heap.size, 0, none⟩) 1 1 [X] := (rd_lit (l2 := [X]) rfl rfl (by simp)).below ((Old.refl _).alloc _)
  refine (rhm_any A1 c1 s.K _ 3 3 [s.V, [X], data] _ (hK.below hO) (rd_three hb (hV.below hO) hx (hr.below hO)) (by have := hV.1; simp; omega)).mono ?_
  rintro e w' ⟨A, c, rfl, h1, h2, h3⟩
  refine ⟨A, c, rfl, ?_, h2, fun ad had => Nat.le_trans hO.size (h3 ad had)⟩
  simpa using h1
theorem rmac_one (s : DS) (A1 A2 : Option Addr) (c1 c2 : Nat) (w : World) (hK : Rd w A1 32 c1 s.K) (hV : Rd w A2 32 c2 s.V) :
    Calls Tryd.prog 37 #[.slice A1 32 c1, .slice (some ⟨w.heap.size, 0, none⟩) 1 1] (w.alloc (.cells #[.slice A2 32 c2] 22)) fun e w' =>
      ∃ A c, e = .returned (.slice A 32 c) ∧ Rd w' A 32 c (hm s.K s.V) ∧ Old (w.alloc (.cells #[.slice A2 32 c2] 22)) w' ∧ ∀ ad, A = some ad → w.heap.size ≤ ad.block := by
  have hO : Old w (w.alloc (.cells #[.slice A2 32 c2] 22)) := (Old.refl w).alloc _
  refine (rhm_any A1 c1 s.K _ 1 1 [s.V] _ (hK.below hO) (rd_one (Blk.new _ _ _) (hV.below hO)) (by have := hV.1; simp; omega)).mono ?_
  rintro e w' ⟨A, c, rfl, h1, h2, h3⟩
  refine ⟨A, c, rfl, ?_, h2, fun ad had => Nat.le_trans hO.size (h3 ad had)⟩
  simpa using h1
set_option maxHeartbeats 4000000 in
theorem rupdate_any (d : Nat) (s : DS) (left : Int) (A3 : Option Addr) (m3 c3 : Nat) (data : List UInt8) (w : World) (h : ErAt w d s left) (hr : Rd w A3 m3 c3 data) (hl : data.length ≤ 140737488351300) :
    Calls Tryd.prog 26 #[.pointer (some ⟨d, 0, none⟩), .slice A3 m3 c3] w fun e w' => e = .returned (.tuple #[]) ∧ ErAt w' d (s.upd data) left ∧ Turn [d] w w' := by
  obtain ⟨A1, c1, A2, c2, hB, h1, h2⟩ := h
  have hm3 : m3 = data.length := hr.1
  have H := Lib.hid (And.intro hB (And.intro h1 (And.intro h2 (And.intro hr hl))))
  have HM := Lib.hid hm3
  unfold DS.upd
  by_cases h0 : data.length = 0
  · have hz : (m3 : Int) = 0 := by omega
    have hzz : ¬ (0 : Int) < m3 := by omega
    have hzd : decide ((0 : Int) < m3) = false := decide_eq_false hzz
    rw [if_pos h0]
    clear hB h1 h2 hr hm3 HM h0 hl
    go_enter Tryd.func26, Tryd.ntmps26
    go_wp2_with fail
    have Q0 := Lib.hid (show w.cell? ⟨d, 0, none⟩ = some (.slice A1 32 c1) ∧ w.cell? ⟨d, 1, none⟩ = some (.slice A2 32 c2) from ⟨by have := Blk.cell H.out.1 0; simpa using this, by have := Blk.cell H.out.1 1; simpa using this⟩)
    refine region_oldZ 15 (by kernel_rfl) (fun wd hHeld hSz => ?_)
    have HSz := Lib.hid hSz
    clear hSz
    have hOd := hHeld
    refine takeZ (z := 15) (by kernel_rfl) (i := 0) (v := ?_) rfl (by kernel_rfl) (by kernel_rfl) (by kernel_rfl) (fun _ _ _ h => h) (Or.inl ⟨by rfl, ?_⟩) hHeld ?_
    rotate_left
    focus (intro wq hSw; clear hSw; go_simp; try with_reducible rfl)
    try simp only [Act.put, List.setIfInBounds_toArray, List.set_cons_zero, List.set_cons_succ]
    refine takeZ (z := 15) (by kernel_rfl) (i := 1) (v := ?_) rfl (by kernel_rfl) (by kernel_rfl) (by kernel_rfl) (fun _ _ _ h => h) (Or.inl ⟨by rfl, ?_⟩) hHeld ?_
    rotate_left
    focus (intro wq hSw; clear hSw; go_simp; try with_reducible rfl)
    try simp only [Act.put, List.setIfInBounds_toArray, List.set_cons_zero, List.set_cons_succ]
    refine takeZ (z := 15) (by kernel_rfl) (i := 2) (v := ?_) rfl (by kernel_rfl) (by kernel_rfl) (by kernel_rfl) (fun _ _ _ h => h) (Or.inl ⟨by rfl, ?_⟩) hHeld ?_
    rotate_left
    focus (intro wq hSw; clear hSw; go_simp; try with_reducible rfl)
    try simp only [Act.put, List.setIfInBounds_toArray, List.set_cons_zero, List.set_cons_succ]
    refine takeZ (z := 15) (by kernel_rfl) (i := 3) (v := ?_) rfl (by kernel_rfl) (by kernel_rfl) (by kernel_rfl) (fun _ _ _ h => h) (Or.inl ⟨by rfl, ?_⟩) hHeld ?_
    rotate_left
    focus (intro wq hSw; clear hSw; go_simp; try with_reducible rfl)
    try simp only [Act.put, List.setIfInBounds_toArray, List.set_cons_zero, List.set_cons_succ]
    refine takeZ (z := 15) (by kernel_rfl) (i := 4) (v := ?_) rfl (by kernel_rfl) (by kernel_rfl) (by kernel_rfl) (fun _ _ _ h => h) (Or.inl ⟨by rfl, ?_⟩) hHeld ?_
    rotate_left
    focus (intro wq hSw; have q0 := cellOld hSw Q0.out.1; clear hSw; go_simp; try with_reducible rfl)
    try simp only [Act.put, List.setIfInBounds_toArray, List.set_cons_zero, List.set_cons_succ]
    refine takeZ (z := 15) (by kernel_rfl) (i := 5) (v := ?_) rfl (by kernel_rfl) (by kernel_rfl) (by kernel_rfl) (fun _ _ _ h => h) (Or.inl ⟨by rfl, ?_⟩) hHeld ?_
    rotate_left
    focus (intro wq hSw; clear hSw; go_simp; try with_reducible rfl)
    try simp only [Act.put, List.setIfInBounds_toArray, List.set_cons_zero, List.set_cons_succ]
    refine takeZ (z := 15) (by kernel_rfl) (i := 6) (v := ?_) rfl (by kernel_rfl) (by kernel_rfl) (by kernel_rfl) (fun _ _ _ h => h) (Or.inl ⟨by rfl, ?_⟩) hHeld ?_
    rotate_left
    focus (intro wq hSw; clear hSw; go_simp; try with_reducible rfl)
    try simp only [Act.put, List.setIfInBounds_toArray, List.set_cons_zero, List.set_cons_succ]
    refine takeZ (z := 15) (by kernel_rfl) (i := 7) (v := ?_) rfl (by kernel_rfl) (by kernel_rfl) (by kernel_rfl) (fun _ _ _ h => h) (Or.inl ⟨by rfl, ?_⟩) hHeld ?_
    rotate_left
    focus (intro wq hSw; clear hSw; go_simp; try with_reducible rfl)
    try simp only [Act.put, List.setIfInBounds_toArray, List.set_cons_zero, List.set_cons_succ]
    refine takeZ (z := 15) (by kernel_rfl) (i := 8) (v := ?_) rfl (by kernel_rfl) (by kernel_rfl) (by kernel_rfl) (fun _ _ _ h => h) (Or.inl ⟨by rfl, ?_⟩) hHeld ?_
    rotate_left
    focus (intro wq hSw; have q1 := cellOld hSw Q0.out.2; clear hSw; go_simp; try with_reducible rfl)
    try simp only [Act.put, List.setIfInBounds_toArray, List.set_cons_zero, List.set_cons_succ]
    refine takeZ (z := 15) (by kernel_rfl) (i := 10) (v := ?_) rfl (by kernel_rfl) (by kernel_rfl) (by kernel_rfl) (fun _ _ _ h => h) (Or.inl ⟨by rfl, ?_⟩) hHeld ?_
    rotate_left
    focus (intro wq hSw; clear hSw; go_simp; try with_reducible rfl)
    try simp only [Act.put, List.setIfInBounds_toArray, List.set_cons_zero, List.set_cons_succ]
    refine wpAnyT_ready (rs := [9]) (by kernel_rfl) (by simp) ?_
    refine consZ rfl (fun K hK => ?_) AllReadyT.nil
    go_simp
    refine hK.out _ _ (by repeat (first | exact hHeld | exact Old.refl _ | assumption | refine Old.drew ?_ | refine Old.drewN ?_ _ | refine Old.alloc ?_ _)) (fun hHeld => ?_)
    clear hK K
    try simp only [Act.put, List.setIfInBounds_toArray, List.set_cons_zero, List.set_cons_succ]
    refine wpAnyT_ready (rs := [11]) (by kernel_rfl) (by simp) ?_
    refine consZ rfl (fun K hK => ?_) AllReadyT.nil
    go_simp
    refine hK.out _ _ (by repeat (first | exact hHeld | exact Old.refl _ | assumption | refine Old.drew ?_ | refine Old.drewN ?_ _ | refine Old.alloc ?_ _)) (fun hHeld => ?_)
    clear hK K
    try simp only [Act.put, List.setIfInBounds_toArray, List.set_cons_zero, List.set_cons_succ]
    refine wpAnyT_ready (rs := [12]) (by kernel_rfl) (by simp) ?_
    refine consZ rfl (fun K hK => ?_) AllReadyT.nil
    go_simp
    refine (rmac_three s A1 A2 A3 c1 c2 m3 c3 0 data wd (Rd.below H.out.2.1 hOd) (Rd.below H.out.2.2.1 hOd) (Rd.below H.out.2.2.2.1 hOd) H.out.2.2.2.2).mono ?_
    rintro e wa ⟨Ak1, ck1, rfl, hrn, hO, hfr⟩
    refine hK.out _ _ ((hHeld).trans hO) (fun hHeld => ?_)
    clear hK K
    try simp only [Act.put, List.setIfInBounds_toArray, List.set_cons_zero, List.set_cons_succ]
    refine wpAnyT_ready (rs := [13]) (by kernel_rfl) (by simp) ?_
    refine consZ rfl (fun K hK => ?_) AllReadyT.nil
    go_simp
    refine hK.out _ _ hHeld (fun hHeld => ?_)
    clear hK K
    try simp only [Act.put, List.setIfInBounds_toArray, List.set_cons_zero, List.set_cons_succ]
    refine wpAnyT_ready (rs := [14]) (by kernel_rfl) (by simp) ?_
    refine consZ rfl (fun K hK => ?_) AllReadyT.nil
    go_simp
    refine hK.out _ _ hHeld (fun hHeld => ?_)
    clear hK K
    try simp only [Act.put, List.setIfInBounds_toArray, List.set_cons_zero, List.set_cons_succ]
    have hOa1a : Old w wa := Old.trans ((Old.alloc (Old.alloc hOd _) _)) hO
    have hBa := Blk.below H.out.1 hOa1a
    have f0 := hBa.frozen 0
    have q9 := hBa.cell 0
    simp at q9
    refine wpAnyT_ready (rs := [15]) (by kernel_rfl) (by simp) ?_
    refine consZl rfl (fun K hK => ?_) AllReadyT.nil
    go_simp
    refine hK.out _ _ ?_
    clear hK K
    try simp only [Act.put, List.setIfInBounds_toArray, List.set_cons_zero, List.set_cons_succ]
    refine wpAnyT_done (by kernel_rfl) ?_ _
    refine NoPanic.normal ?_
    try simp only [Exit.then]
    obtain ⟨W1a, hW⟩ : ∃ W, wa.setCell ⟨d, 0, none⟩ (.slice Ak1 32 ck1) = W := ⟨_, rfl⟩
    have hBd : Blk W1a d 54 #[.slice Ak1 32 ck1, .slice A2 32 c2, .int .i64 left] := by
      rw [← hW]
      have := hBa.set_ 0 (.slice Ak1 32 ck1)
      simpa using this
    have hTc : Turn [d] wa W1a := by
      rw [← hW]
      exact (Turn.refl _ _).setCell (.inl (by simp)) _
    have hTd : Turn [d] w W1a := (Turn.of_below [d] hOa1a).trans hTc (fun x hx => .inl hx)
    have hnd := hrn.turnN (by decide) hTc (one_noB d (NoB.of hBa rfl))
    have hod := (Rd.below H.out.2.2.1 hOa1a).turnN (by decide) hTc (one_noB d (NoB.of hBa rfl))
    have E1a := Lib.hid (And.intro hBd (And.intro hnd (And.intro hod hTd)))
    have HF1a := Lib.hid hfr
    rw [hW]
    clear hBa f0 q9 hW hBd hTc hTd hnd hod hrn hO hfr hOa1a hHeld hOd
    go_wp2_with fail
    have Q0 := Lib.hid (show W1a.cell? ⟨d, 0, none⟩ = some (.slice Ak1 32 ck1) ∧ W1a.cell? ⟨d, 1, none⟩ = some (.slice A2 32 c2) from ⟨by have := Blk.cell E1a.out.1 0; simpa using this, by have := Blk.cell E1a.out.1 1; simpa using this⟩)
    refine region_oldZ 13 (by kernel_rfl) (fun wd hHeld hSz => ?_)
    have HSz := Lib.hid hSz
    clear hSz
    have hOd := hHeld
    refine takeZ (z := 13) (by kernel_rfl) (i := 0) (v := ?_) rfl (by kernel_rfl) (by kernel_rfl) (by kernel_rfl) (fun _ _ _ h => h) (Or.inl ⟨by rfl, ?_⟩) hHeld ?_
    rotate_left
    focus (intro wq hSw; clear hSw; go_simp; try with_reducible rfl)
    try simp only [Act.put, List.setIfInBounds_toArray, List.set_cons_zero, List.set_cons_succ]
    refine takeZ (z := 13) (by kernel_rfl) (i := 1) (v := ?_) rfl (by kernel_rfl) (by kernel_rfl) (by kernel_rfl) (fun _ _ _ h => h) (Or.inl ⟨by rfl, ?_⟩) hHeld ?_
    rotate_left
    focus (intro wq hSw; clear hSw; go_simp; try with_reducible rfl)
    try simp only [Act.put, List.setIfInBounds_toArray, List.set_cons_zero, List.set_cons_succ]
    refine takeZ (z := 13) (by kernel_rfl) (i := 2) (v := ?_) rfl (by kernel_rfl) (by kernel_rfl) (by kernel_rfl) (fun _ _ _ h => h) (Or.inl ⟨by rfl, ?_⟩) hHeld ?_
    rotate_left
    focus (intro wq hSw; clear hSw; go_simp; try with_reducible rfl)
    try simp only [Act.put, List.setIfInBounds_toArray, List.set_cons_zero, List.set_cons_succ]
    refine takeZ (z := 13) (by kernel_rfl) (i := 3) (v := ?_) rfl (by kernel_rfl) (by kernel_rfl) (by kernel_rfl) (fun _ _ _ h => h) (Or.inl ⟨by rfl, ?_⟩) hHeld ?_
    rotate_left
    focus (intro wq hSw; clear hSw; go_simp; try with_reducible rfl)
    try simp only [Act.put, List.setIfInBounds_toArray, List.set_cons_zero, List.set_cons_succ]
    refine takeZ (z := 13) (by kernel_rfl) (i := 4) (v := ?_) rfl (by kernel_rfl) (by kernel_rfl) (by kernel_rfl) (fun _ _ _ h => h) (Or.inl ⟨by rfl, ?_⟩) hHeld ?_
    rotate_left
    focus (intro wq hSw; have q0 := cellOld hSw Q0.out.1; clear hSw; go_simp; try with_reducible rfl)
    try simp only [Act.put, List.setIfInBounds_toArray, List.set_cons_zero, List.set_cons_succ]
    refine takeZ (z := 13) (by kernel_rfl) (i := 5) (v := ?_) rfl (by kernel_rfl) (by kernel_rfl) (by kernel_rfl) (fun _ _ _ h => h) (Or.inl ⟨by rfl, ?_⟩) hHeld ?_
    rotate_left
    focus (intro wq hSw; clear hSw; go_simp; try with_reducible rfl)
    try simp only [Act.put, List.setIfInBounds_toArray, List.set_cons_zero, List.set_cons_succ]
    refine takeZ (z := 13) (by kernel_rfl) (i := 6) (v := ?_) rfl (by kernel_rfl) (by kernel_rfl) (by kernel_rfl) (fun _ _ _ h => h) (Or.inl ⟨by rfl, ?_⟩) hHeld ?_
    rotate_left
    focus (intro wq hSw; clear hSw; go_simp; try with_reducible rfl)
    try simp only [Act.put, List.setIfInBounds_toArray, List.set_cons_zero, List.set_cons_succ]
    refine takeZ (z := 13) (by kernel_rfl) (i := 7) (v := ?_) rfl (by kernel_rfl) (by kernel_rfl) (by kernel_rfl) (fun _ _ _ h => h) (Or.inl ⟨by rfl, ?_⟩) hHeld ?_
    rotate_left
    focus (intro wq hSw; clear hSw; go_simp; try with_reducible rfl)
    try simp only [Act.put, List.setIfInBounds_toArray, List.set_cons_zero, List.set_cons_succ]
    refine takeZ (z := 13) (by kernel_rfl) (i := 8) (v := ?_) rfl (by kernel_rfl) (by kernel_rfl) (by kernel_rfl) (fun _ _ _ h => h) (Or.inl ⟨by rfl, ?_⟩) hHeld ?_
    rotate_left
    focus (intro wq hSw; have q1 := cellOld hSw Q0.out.2; clear hSw; go_simp; try with_reducible rfl)
    try simp only [Act.put, List.setIfInBounds_toArray, List.set_cons_zero, List.set_cons_succ]
    refine wpAnyT_ready (rs := [9]) (by kernel_rfl) (by simp) ?_
    refine consZ rfl (fun K hK => ?_) AllReadyT.nil
    go_simp
    refine hK.out _ _ (by repeat (first | exact hHeld | exact Old.refl _ | assumption | refine Old.drew ?_ | refine Old.drewN ?_ _ | refine Old.alloc ?_ _)) (fun hHeld => ?_)
    clear hK K
    try simp only [Act.put, List.setIfInBounds_toArray, List.set_cons_zero, List.set_cons_succ]
    refine wpAnyT_ready (rs := [10]) (by kernel_rfl) (by simp) ?_
    refine consZ rfl (fun K hK => ?_) AllReadyT.nil
    go_simp
    refine (rmac_one ⟨hm s.K (s.V ++ [0] ++ data), s.V⟩ Ak1 A2 ck1 c2 wd (Rd.below E1a.out.2.1 hOd) (Rd.below E1a.out.2.2.1 hOd)).mono ?_
    rintro e wa ⟨Av1, cv1, rfl, hrn, hO, hfr⟩
    refine hK.out _ _ ((hHeld).trans hO) (fun hHeld => ?_)
    clear hK K
    try simp only [Act.put, List.setIfInBounds_toArray, List.set_cons_zero, List.set_cons_succ]
    refine wpAnyT_ready (rs := [11]) (by kernel_rfl) (by simp) ?_
    refine consZ rfl (fun K hK => ?_) AllReadyT.nil
    go_simp
    refine hK.out _ _ hHeld (fun hHeld => ?_)
    clear hK K
    try simp only [Act.put, List.setIfInBounds_toArray, List.set_cons_zero, List.set_cons_succ]
    refine wpAnyT_ready (rs := [12]) (by kernel_rfl) (by simp) ?_
    refine consZ rfl (fun K hK => ?_) AllReadyT.nil
    go_simp
    refine hK.out _ _ hHeld (fun hHeld => ?_)
    clear hK K
    try simp only [Act.put, List.setIfInBounds_toArray, List.set_cons_zero, List.set_cons_succ]
    have hOa1b : Old W1a wa := Old.trans (Old.alloc hOd _) hO
    have hBa := Blk.below E1a.out.1 hOa1b
    have f0 := hBa.frozen 1
    have q9 := hBa.cell 1
    simp at q9
    refine wpAnyT_ready (rs := [13]) (by kernel_rfl) (by simp) ?_
    refine consZl rfl (fun K hK => ?_) AllReadyT.nil
    go_simp
    refine hK.out _ _ ?_
    clear hK K
    try simp only [Act.put, List.setIfInBounds_toArray, List.set_cons_zero, List.set_cons_succ]
    refine wpAnyT_done (by kernel_rfl) ?_ _
    refine NoPanic.normal ?_
    try simp only [Exit.then]
    obtain ⟨W1b, hW⟩ : ∃ W, wa.setCell ⟨d, 1, none⟩ (.slice Av1 32 cv1) = W := ⟨_, rfl⟩
    have hBd : Blk W1b d 54 #[.slice Ak1 32 ck1, .slice Av1 32 cv1, .int .i64 left] := by
      rw [← hW]
      have := hBa.set_ 1 (.slice Av1 32 cv1)
      simpa using this
    have hTc : Turn [d] wa W1b := by
      rw [← hW]
      exact (Turn.refl _ _).setCell (.inl (by simp)) _
    have hTd : Turn [d] W1a W1b := (Turn.of_below [d] hOa1b).trans hTc (fun x hx => .inl hx)
    have hnd := hrn.turnN (by decide) hTc (one_noB d (NoB.of hBa rfl))
    have hod := (Rd.below E1a.out.2.1 hOa1b).turnN (by decide) hTc (one_noB d (NoB.of hBa rfl))
    have E1b := Lib.hid (And.intro hBd (And.intro hnd (And.intro hod hTd)))
    have HF1b := Lib.hid hfr
    rw [hW]
    clear hBa f0 q9 hW hBd hTc hTd hnd hod hrn hO hfr hOa1b hHeld hOd
    go_wp2_with fail
    refine bodyPost_end (results_none rfl _ _ _) rfl ?_
    exact ⟨rfl, ⟨_, _, _, _, E1b.out.1, E1b.out.2.2.1, E1b.out.2.1⟩, E1a.out.2.2.2.trans E1b.out.2.2.2 (fun x hx => .inl hx)⟩
  · have hz : (0 : Int) < m3 := by omega
    have hzd : decide ((0 : Int) < m3) = true := decide_eq_true hz
    rw [if_neg h0]
    have hm0 : 0 < m3 := by omega
    have HN := Lib.hid (And.intro hm0 hl)
    clear hB h1 h2 hr hm3 HM hm0 h0 hl
    go_enter Tryd.func26, Tryd.ntmps26
    go_wp2_with fail
    have Q0 := Lib.hid (show w.cell? ⟨d, 0, none⟩ = some (.slice A1 32 c1) ∧ w.cell? ⟨d, 1, none⟩ = some (.slice A2 32 c2) from ⟨by have := Blk.cell H.out.1 0; simpa using this, by have := Blk.cell H.out.1 1; simpa using this⟩)
    refine region_oldZ 15 (by kernel_rfl) (fun wd hHeld hSz => ?_)
    have HSz := Lib.hid hSz
    clear hSz
    have hOd := hHeld
    refine takeZ (z := 15) (by kernel_rfl) (i := 0) (v := ?_) rfl (by kernel_rfl) (by kernel_rfl) (by kernel_rfl) (fun _ _ _ h => h) (Or.inl ⟨by rfl, ?_⟩) hHeld ?_
    rotate_left
    focus (intro wq hSw; clear hSw; go_simp; try with_reducible rfl)
    try simp only [Act.put, List.setIfInBounds_toArray, List.set_cons_zero, List.set_cons_succ]
    refine takeZ (z := 15) (by kernel_rfl) (i := 1) (v := ?_) rfl (by kernel_rfl) (by kernel_rfl) (by kernel_rfl) (fun _ _ _ h => h) (Or.inl ⟨by rfl, ?_⟩) hHeld ?_
    rotate_left
    focus (intro wq hSw; clear hSw; go_simp; try with_reducible rfl)
    try simp only [Act.put, List.setIfInBounds_toArray, List.set_cons_zero, List.set_cons_succ]
    refine takeZ (z := 15) (by kernel_rfl) (i := 2) (v := ?_) rfl (by kernel_rfl) (by kernel_rfl) (by kernel_rfl) (fun _ _ _ h => h) (Or.inl ⟨by rfl, ?_⟩) hHeld ?_
    rotate_left
    focus (intro wq hSw; clear hSw; go_simp; try with_reducible rfl)
    try simp only [Act.put, List.setIfInBounds_toArray, List.set_cons_zero, List.set_cons_succ]
    refine takeZ (z := 15) (by kernel_rfl) (i := 3) (v := ?_) rfl (by kernel_rfl) (by kernel_rfl) (by kernel_rfl) (fun _ _ _ h => h) (Or.inl ⟨by rfl, ?_⟩) hHeld ?_
    rotate_left
    focus (intro wq hSw; clear hSw; go_simp; try with_reducible rfl)
    try simp only [Act.put, List.setIfInBounds_toArray, List.set_cons_zero, List.set_cons_succ]
    refine takeZ (z := 15) (by kernel_rfl) (i := 4) (v := ?_) rfl (by kernel_rfl) (by kernel_rfl) (by kernel_rfl) (fun _ _ _ h => h) (Or.inl ⟨by rfl, ?_⟩) hHeld ?_
    rotate_left
    focus (intro wq hSw; have q0 := cellOld hSw Q0.out.1; clear hSw; go_simp; try with_reducible rfl)
    try simp only [Act.put, List.setIfInBounds_toArray, List.set_cons_zero, List.set_cons_succ]
    refine takeZ (z := 15) (by kernel_rfl) (i := 5) (v := ?_) rfl (by kernel_rfl) (by kernel_rfl) (by kernel_rfl) (fun _ _ _ h => h) (Or.inl ⟨by rfl, ?_⟩) hHeld ?_
    rotate_left
    focus (intro wq hSw; clear hSw; go_simp; try with_reducible rfl)
    try simp only [Act.put, List.setIfInBounds_toArray, List.set_cons_zero, List.set_cons_succ]
    refine takeZ (z := 15) (by kernel_rfl) (i := 6) (v := ?_) rfl (by kernel_rfl) (by kernel_rfl) (by kernel_rfl) (fun _ _ _ h => h) (Or.inl ⟨by rfl, ?_⟩) hHeld ?_
    rotate_left
    focus (intro wq hSw; clear hSw; go_simp; try with_reducible rfl)
    try simp only [Act.put, List.setIfInBounds_toArray, List.set_cons_zero, List.set_cons_succ]
    refine takeZ (z := 15) (by kernel_rfl) (i := 7) (v := ?_) rfl (by kernel_rfl) (by kernel_rfl) (by kernel_rfl) (fun _ _ _ h => h) (Or.inl ⟨by rfl, ?_⟩) hHeld ?_
    rotate_left
    focus (intro wq hSw; clear hSw; go_simp; try with_reducible rfl)
    try simp only [Act.put, List.setIfInBounds_toArray, List.set_cons_zero, List.set_cons_succ]
    refine takeZ (z := 15) (by kernel_rfl) (i := 8) (v := ?_) rfl (by kernel_rfl) (by kernel_rfl) (by kernel_rfl) (fun _ _ _ h => h) (Or.inl ⟨by rfl, ?_⟩) hHeld ?_
    rotate_left
    focus (intro wq hSw; have q1 := cellOld hSw Q0.out.2; clear hSw; go_simp; try with_reducible rfl)
    try simp only [Act.put, List.setIfInBounds_toArray, List.set_cons_zero, List.set_cons_succ]
    refine takeZ (z := 15) (by kernel_rfl) (i := 10) (v := ?_) rfl (by kernel_rfl) (by kernel_rfl) (by kernel_rfl) (fun _ _ _ h => h) (Or.inl ⟨by rfl, ?_⟩) hHeld ?_
    rotate_left
    focus (intro wq hSw; clear hSw; go_simp; try with_reducible rfl)
    try simp only [Act.put, List.setIfInBounds_toArray, List.set_cons_zero, List.set_cons_succ]
    refine wpAnyT_ready (rs := [9]) (by kernel_rfl) (by simp) ?_
    refine consZ rfl (fun K hK => ?_) AllReadyT.nil
    go_simp
    refine hK.out _ _ (by repeat (first | exact hHeld | exact Old.refl _ | assumption | refine Old.drew ?_ | refine Old.drewN ?_ _ | refine Old.alloc ?_ _)) (fun hHeld => ?_)
    clear hK K
    try simp only [Act.put, List.setIfInBounds_toArray, List.set_cons_zero, List.set_cons_succ]
    refine wpAnyT_ready (rs := [11]) (by kernel_rfl) (by simp) ?_
    refine consZ rfl (fun K hK => ?_) AllReadyT.nil
    go_simp
    refine hK.out _ _ (by repeat (first | exact hHeld | exact Old.refl _ | assumption | refine Old.drew ?_ | refine Old.drewN ?_ _ | refine Old.alloc ?_ _)) (fun hHeld => ?_)
    clear hK K
    try simp only [Act.put, List.setIfInBounds_toArray, List.set_cons_zero, List.set_cons_succ]
    refine wpAnyT_ready (rs := [12]) (by kernel_rfl) (by simp) ?_
    refine consZ rfl (fun K hK => ?_) AllReadyT.nil
    go_simp
    refine (rmac_three s A1 A2 A3 c1 c2 m3 c3 0 data wd (Rd.below H.out.2.1 hOd) (Rd.below H.out.2.2.1 hOd) (Rd.below H.out.2.2.2.1 hOd) H.out.2.2.2.2).mono ?_
    rintro e wa ⟨Ak1, ck1, rfl, hrn, hO, hfr⟩
    refine hK.out _ _ ((hHeld).trans hO) (fun hHeld => ?_)
    clear hK K
    try simp only [Act.put, List.setIfInBounds_toArray, List.set_cons_zero, List.set_cons_succ]
    refine wpAnyT_ready (rs := [13]) (by kernel_rfl) (by simp) ?_
    refine consZ rfl (fun K hK => ?_) AllReadyT.nil
    go_simp
    refine hK.out _ _ hHeld (fun hHeld => ?_)
    clear hK K
    try simp only [Act.put, List.setIfInBounds_toArray, List.set_cons_zero, List.set_cons_succ]
    refine wpAnyT_ready (rs := [14]) (by kernel_rfl) (by simp) ?_
    refine consZ rfl (fun K hK => ?_) AllReadyT.nil
    go_simp
    refine hK.out _ _ hHeld (fun hHeld => ?_)
    clear hK K
    try simp only [Act.put, List.setIfInBounds_toArray, List.set_cons_zero, List.set_cons_succ]
    have hOa1a : Old w wa := Old.trans ((Old.alloc (Old.alloc hOd _) _)) hO
    have hBa := Blk.below H.out.1 hOa1a
    have f0 := hBa.frozen 0
    have q9 := hBa.cell 0
    simp at q9
    refine wpAnyT_ready (rs := [15]) (by kernel_rfl) (by simp) ?_
    refine consZl rfl (fun K hK => ?_) AllReadyT.nil
    go_simp
    refine hK.out _ _ ?_
    clear hK K
    try simp only [Act.put, List.setIfInBounds_toArray, List.set_cons_zero, List.set_cons_succ]
    refine wpAnyT_done (by kernel_rfl) ?_ _
    refine NoPanic.normal ?_
    try simp only [Exit.then]
    obtain ⟨W1a, hW⟩ : ∃ W, wa.setCell ⟨d, 0, none⟩ (.slice Ak1 32 ck1) = W := ⟨_, rfl⟩
    have hBd : Blk W1a d 54 #[.slice Ak1 32 ck1, .slice A2 32 c2, .int .i64 left] := by
      rw [← hW]
      have := hBa.set_ 0 (.slice Ak1 32 ck1)
      simpa using this
    have hTc : Turn [d] wa W1a := by
      rw [← hW]
      exact (Turn.refl _ _).setCell (.inl (by simp)) _
    have hTd : Turn [d] w W1a := (Turn.of_below [d] hOa1a).trans hTc (fun x hx => .inl hx)
    have hnd := hrn.turnN (by decide) hTc (one_noB d (NoB.of hBa rfl))
    have hod := (Rd.below H.out.2.2.1 hOa1a).turnN (by decide) hTc (one_noB d (NoB.of hBa rfl))
    have E1a := Lib.hid (And.intro hBd (And.intro hnd (And.intro hod hTd)))
    have HF1a := Lib.hid hfr
    rw [hW]
    clear hBa f0 q9 hW hBd hTc hTd hnd hod hrn hO hfr hOa1a hHeld hOd
    go_wp2_with fail
    have Q0 := Lib.hid (show W1a.cell? ⟨d, 0, none⟩ = some (.slice Ak1 32 ck1) ∧ W1a.cell? ⟨d, 1, none⟩ = some (.slice A2 32 c2) from ⟨by have := Blk.cell E1a.out.1 0; simpa using this, by have := Blk.cell E1a.out.1 1; simpa using this⟩)
    refine region_oldZ 13 (by kernel_rfl) (fun wd hHeld hSz => ?_)
    have HSz := Lib.hid hSz
    clear hSz
    have hOd := hHeld
    refine takeZ (z := 13) (by kernel_rfl) (i := 0) (v := ?_) rfl (by kernel_rfl) (by kernel_rfl) (by kernel_rfl) (fun _ _ _ h => h) (Or.inl ⟨by rfl, ?_⟩) hHeld ?_
    rotate_left
    focus (intro wq hSw; clear hSw; go_simp; try with_reducible rfl)
    try simp only [Act.put, List.setIfInBounds_toArray, List.set_cons_zero, List.set_cons_succ]
    refine takeZ (z := 13) (by kernel_rfl) (i := 1) (v := ?_) rfl (by kernel_rfl) (by kernel_rfl) (by kernel_rfl) (fun _ _ _ h => h) (Or.inl ⟨by rfl, ?_⟩) hHeld ?_
    rotate_left
    focus (intro wq hSw; clear hSw; go_simp; try with_reducible rfl)
    try simp only [Act.put, List.setIfInBounds_toArray, List.set_cons_zero, List.set_cons_succ]
    refine takeZ (z := 13) (by kernel_rfl) (i := 2) (v := ?_) rfl (by kernel_rfl) (by kernel_rfl) (by kernel_rfl) (fun _ _ _ h => h) (Or.inl ⟨by rfl, ?_⟩) hHeld ?_
    rotate_left
    focus (intro wq hSw; clear hSw; go_simp; try with_reducible rfl)
    try simp only [Act.put, List.setIfInBounds_toArray, List.set_cons_zero, List.set_cons_succ]
    refine takeZ (z := 13) (by kernel_rfl) (i := 3) (v := ?_) rfl (by kernel_rfl) (by kernel_rfl) (by kernel_rfl) (fun _ _ _ h => h) (Or.inl ⟨by rfl, ?_⟩) hHeld ?_
    rotate_left
    focus (intro wq hSw; clear hSw; go_simp; try with_reducible rfl)
    try simp only [Act.put, List.setIfInBounds_toArray, List.set_cons_zero, List.set_cons_succ]
    refine takeZ (z := 13) (by kernel_rfl) (i := 4) (v := ?_) rfl (by kernel_rfl) (by kernel_rfl) (by kernel_rfl) (fun _ _ _ h => h) (Or.inl ⟨by rfl, ?_⟩) hHeld ?_
    rotate_left
    focus (intro wq hSw; have q0 := cellOld hSw Q0.out.1; clear hSw; go_simp; try with_reducible rfl)
    try simp only [Act.put, List.setIfInBounds_toArray, List.set_cons_zero, List.set_cons_succ]
    refine takeZ (z := 13) (by kernel_rfl) (i := 5) (v := ?_) rfl (by kernel_rfl) (by kernel_rfl) (by kernel_rfl) (fun _ _ _ h => h) (Or.inl ⟨by rfl, ?_⟩) hHeld ?_
    rotate_left
    focus (intro wq hSw; clear hSw; go_simp; try with_reducible rfl)
    try simp only [Act.put, List.setIfInBounds_toArray, List.set_cons_zero, List.set_cons_succ]
    refine takeZ (z := 13) (by kernel_rfl) (i := 6) (v := ?_) rfl (by kernel_rfl) (by kernel_rfl) (by kernel_rfl) (fun _ _ _ h => h) (Or.inl ⟨by rfl, ?_⟩) hHeld ?_
    rotate_left
    focus (intro wq hSw; clear hSw; go_simp; try with_reducible rfl)
    try simp only [Act.put, List.setIfInBounds_toArray, List.set_cons_zero, List.set_cons_succ]
    refine takeZ (z := 13) (by kernel_rfl) (i := 7) (v := ?_) rfl (by kernel_rfl) (by kernel_rfl) (by kernel_rfl) (fun _ _ _ h => h) (Or.inl ⟨by rfl, ?_⟩) hHeld ?_
    rotate_left
    focus (intro wq hSw; clear hSw; go_simp; try with_reducible rfl)
    try simp only [Act.put, List.setIfInBounds_toArray, List.set_cons_zero, List.set_cons_succ]
    refine takeZ (z := 13) (by kernel_rfl) (i := 8) (v := ?_) rfl (by kernel_rfl) (by kernel_rfl) (by kernel_rfl) (fun _ _ _ h => h) (Or.inl ⟨by rfl, ?_⟩) hHeld ?_
    rotate_left
    focus (intro wq hSw; have q1 := cellOld hSw Q0.out.2; clear hSw; go_simp; try with_reducible rfl)
    try simp only [Act.put, List.setIfInBounds_toArray, List.set_cons_zero, List.set_cons_succ]
    refine wpAnyT_ready (rs := [9]) (by kernel_rfl) (by simp) ?_
    refine consZ rfl (fun K hK => ?_) AllReadyT.nil
    go_simp
    refine hK.out _ _ (by repeat (first | exact hHeld | exact Old.refl _ | assumption | refine Old.drew ?_ | refine Old.drewN ?_ _ | refine Old.alloc ?_ _)) (fun hHeld => ?_)
    clear hK K
    try simp only [Act.put, List.setIfInBounds_toArray, List.set_cons_zero, List.set_cons_succ]
    refine wpAnyT_ready (rs := [10]) (by kernel_rfl) (by simp) ?_
    refine consZ rfl (fun K hK => ?_) AllReadyT.nil
    go_simp
    refine (rmac_one ⟨hm s.K (s.V ++ [0] ++ data), s.V⟩ Ak1 A2 ck1 c2 wd (Rd.below E1a.out.2.1 hOd) (Rd.below E1a.out.2.2.1 hOd)).mono ?_
    rintro e wa ⟨Av1, cv1, rfl, hrn, hO, hfr⟩
    refine hK.out _ _ ((hHeld).trans hO) (fun hHeld => ?_)
    clear hK K
    try simp only [Act.put, List.setIfInBounds_toArray, List.set_cons_zero, List.set_cons_succ]
    refine wpAnyT_ready (rs := [11]) (by kernel_rfl) (by simp) ?_
    refine consZ rfl (fun K hK => ?_) AllReadyT.nil
    go_simp
    refine hK.out _ _ hHeld (fun hHeld => ?_)
    clear hK K
    try simp only [Act.put, List.setIfInBounds_toArray, List.set_cons_zero, List.set_cons_succ]
    refine wpAnyT_ready (rs := [12]) (by kernel_rfl) (by simp) ?_
    refine consZ rfl (fun K hK => ?_) AllReadyT.nil
    go_simp
    refine hK.out _ _ hHeld (fun hHeld => ?_)
    clear hK K
    try simp only [Act.put, List.setIfInBounds_toArray, List.set_cons_zero, List.set_cons_succ]
    have hOa1b : Old W1a wa := Old.trans (Old.alloc hOd _) hO
    have hBa := Blk.below E1a.out.1 hOa1b
    have f0 := hBa.frozen 1
    have q9 := hBa.cell 1
    simp at q9
    refine wpAnyT_ready (rs := [13]) (by kernel_rfl) (by simp) ?_
    refine consZl rfl (fun K hK => ?_) AllReadyT.nil
    go_simp
    refine hK.out _ _ ?_
    clear hK K
    try simp only [Act.put, List.setIfInBounds_toArray, List.set_cons_zero, List.set_cons_succ]
    refine wpAnyT_done (by kernel_rfl) ?_ _
    refine NoPanic.normal ?_
    try simp only [Exit.then]
    obtain ⟨W1b, hW⟩ : ∃ W, wa.setCell ⟨d, 1, none⟩ (.slice Av1 32 cv1) = W := ⟨_, rfl⟩
    have hBd : Blk W1b d 54 #[.slice Ak1 32 ck1, .slice Av1 32 cv1, .int .i64 left] := by
      rw [← hW]
      have := hBa.set_ 1 (.slice Av1 32 cv1)
      simpa using this
    have hTc : Turn [d] wa W1b := by
      rw [← hW]
      exact (Turn.refl _ _).setCell (.inl (by simp)) _
    have hTd : Turn [d] W1a W1b := (Turn.of_below [d] hOa1b).trans hTc (fun x hx => .inl hx)
    have hnd := hrn.turnN (by decide) hTc (one_noB d (NoB.of hBa rfl))
    have hod := (Rd.below E1a.out.2.1 hOa1b).turnN (by decide) hTc (one_noB d (NoB.of hBa rfl))
    have E1b := Lib.hid (And.intro hBd (And.intro hnd (And.intro hod hTd)))
    have HF1b := Lib.hid hfr
    rw [hW]
    clear hBa f0 q9 hW hBd hTc hTd hnd hod hrn hO hfr hOa1b hHeld hOd
    have hT1 : Turn [d] w W1b := E1a.out.2.2.2.trans E1b.out.2.2.2 (fun x hx => .inl hx)
    have hr1 : Rd W1b A3 m3 c3 data := H.out.2.2.2.1.turnN HN.out.1 hT1 (one_noB d (NoB.of H.out.1 rfl))
    have HR1 := Lib.hid (And.intro hr1 hT1)
    clear hr1 hT1
    go_wp2_with fail
    have Q0 := Lib.hid (show W1b.cell? ⟨d, 0, none⟩ = some (.slice Ak1 32 ck1) ∧ W1b.cell? ⟨d, 1, none⟩ = some (.slice Av1 32 cv1) from ⟨by have := Blk.cell E1b.out.1 0; simpa using this, by have := Blk.cell E1b.out.1 1; simpa using this⟩)
    refine region_oldZ 15 (by kernel_rfl) (fun wd hHeld hSz => ?_)
    have HSz := Lib.hid hSz
    clear hSz
    have hOd := hHeld
    refine takeZ (z := 15) (by kernel_rfl) (i := 0) (v := ?_) rfl (by kernel_rfl) (by kernel_rfl) (by kernel_rfl) (fun _ _ _ h => h) (Or.inl ⟨by rfl, ?_⟩) hHeld ?_
    rotate_left
    focus (intro wq hSw; clear hSw; go_simp; try with_reducible rfl)
    try simp only [Act.put, List.setIfInBounds_toArray, List.set_cons_zero, List.set_cons_succ]
    refine takeZ (z := 15) (by kernel_rfl) (i := 1) (v := ?_) rfl (by kernel_rfl) (by kernel_rfl) (by kernel_rfl) (fun _ _ _ h => h) (Or.inl ⟨by rfl, ?_⟩) hHeld ?_
    rotate_left
    focus (intro wq hSw; clear hSw; go_simp; try with_reducible rfl)
    try simp only [Act.put, List.setIfInBounds_toArray, List.set_cons_zero, List.set_cons_succ]
    refine takeZ (z := 15) (by kernel_rfl) (i := 2) (v := ?_) rfl (by kernel_rfl) (by kernel_rfl) (by kernel_rfl) (fun _ _ _ h => h) (Or.inl ⟨by rfl, ?_⟩) hHeld ?_
    rotate_left
    focus (intro wq hSw; clear hSw; go_simp; try with_reducible rfl)
    try simp only [Act.put, List.setIfInBounds_toArray, List.set_cons_zero, List.set_cons_succ]
    refine takeZ (z := 15) (by kernel_rfl) (i := 3) (v := ?_) rfl (by kernel_rfl) (by kernel_rfl) (by kernel_rfl) (fun _ _ _ h => h) (Or.inl ⟨by rfl, ?_⟩) hHeld ?_
    rotate_left
    focus (intro wq hSw; clear hSw; go_simp; try with_reducible rfl)
    try simp only [Act.put, List.setIfInBounds_toArray, List.set_cons_zero, List.set_cons_succ]
    refine takeZ (z := 15) (by kernel_rfl) (i := 4) (v := ?_) rfl (by kernel_rfl) (by kernel_rfl) (by kernel_rfl) (fun _ _ _ h => h) (Or.inl ⟨by rfl, ?_⟩) hHeld ?_
    rotate_left
    focus (intro wq hSw; have q0 := cellOld hSw Q0.out.1; clear hSw; go_simp; try with_reducible rfl)
    try simp only [Act.put, List.setIfInBounds_toArray, List.set_cons_zero, List.set_cons_succ]
    refine takeZ (z := 15) (by kernel_rfl) (i := 5) (v := ?_) rfl (by kernel_rfl) (by kernel_rfl) (by kernel_rfl) (fun _ _ _ h => h) (Or.inl ⟨by rfl, ?_⟩) hHeld ?_
    rotate_left
    focus (intro wq hSw; clear hSw; go_simp; try with_reducible rfl)
    try simp only [Act.put, List.setIfInBounds_toArray, List.set_cons_zero, List.set_cons_succ]
    refine takeZ (z := 15) (by kernel_rfl) (i := 6) (v := ?_) rfl (by kernel_rfl) (by kernel_rfl) (by kernel_rfl) (fun _ _ _ h => h) (Or.inl ⟨by rfl, ?_⟩) hHeld ?_
    rotate_left
    focus (intro wq hSw; clear hSw; go_simp; try with_reducible rfl)
    try simp only [Act.put, List.setIfInBounds_toArray, List.set_cons_zero, List.set_cons_succ]
    refine takeZ (z := 15) (by kernel_rfl) (i := 7) (v := ?_) rfl (by kernel_rfl) (by kernel_rfl) (by kernel_rfl) (fun _ _ _ h => h) (Or.inl ⟨by rfl, ?_⟩) hHeld ?_
    rotate_left
    focus (intro wq hSw; clear hSw; go_simp; try with_reducible rfl)
    try simp only [Act.put, List.setIfInBounds_toArray, List.set_cons_zero, List.set_cons_succ]
    refine takeZ (z := 15) (by kernel_rfl) (i := 8) (v := ?_) rfl (by kernel_rfl) (by kernel_rfl) (by kernel_rfl) (fun _ _ _ h => h) (Or.inl ⟨by rfl, ?_⟩) hHeld ?_
    rotate_left
    focus (intro wq hSw; have q1 := cellOld hSw Q0.out.2; clear hSw; go_simp; try with_reducible rfl)
    try simp only [Act.put, List.setIfInBounds_toArray, List.set_cons_zero, List.set_cons_succ]
    refine takeZ (z := 15) (by kernel_rfl) (i := 10) (v := ?_) rfl (by kernel_rfl) (by kernel_rfl) (by kernel_rfl) (fun _ _ _ h => h) (Or.inl ⟨by rfl, ?_⟩) hHeld ?_
    rotate_left
    focus (intro wq hSw; clear hSw; go_simp; try with_reducible rfl)
    try simp only [Act.put, List.setIfInBounds_toArray, List.set_cons_zero, List.set_cons_succ]
    refine wpAnyT_ready (rs := [9]) (by kernel_rfl) (by simp) ?_
    refine consZ rfl (fun K hK => ?_) AllReadyT.nil
    go_simp
    refine hK.out _ _ (by repeat (first | exact hHeld | exact Old.refl _ | assumption | refine Old.drew ?_ | refine Old.drewN ?_ _ | refine Old.alloc ?_ _)) (fun hHeld => ?_)
    clear hK K
    try simp only [Act.put, List.setIfInBounds_toArray, List.set_cons_zero, List.set_cons_succ]
    refine wpAnyT_ready (rs := [11]) (by kernel_rfl) (by simp) ?_
    refine consZ rfl (fun K hK => ?_) AllReadyT.nil
    go_simp
    refine hK.out _ _ (by repeat (first | exact hHeld | exact Old.refl _ | assumption | refine Old.drew ?_ | refine Old.drewN ?_ _ | refine Old.alloc ?_ _)) (fun hHeld => ?_)
    clear hK K
    try simp only [Act.put, List.setIfInBounds_toArray, List.set_cons_zero, List.set_cons_succ]
    refine wpAnyT_ready (rs := [12]) (by kernel_rfl) (by simp) ?_
    refine consZ rfl (fun K hK => ?_) AllReadyT.nil
    go_simp
    refine (rmac_three (s.half 0 data) Ak1 Av1 A3 ck1 cv1 m3 c3 1 data wd (Rd.below E1b.out.2.2.1 hOd) (Rd.below E1b.out.2.1 hOd) (Rd.below HR1.out.1 hOd) HN.out.2).mono ?_
    rintro e wa ⟨Ak2, ck2, rfl, hrn, hO, hfr⟩
    refine hK.out _ _ ((hHeld).trans hO) (fun hHeld => ?_)
    clear hK K
    try simp only [Act.put, List.setIfInBounds_toArray, List.set_cons_zero, List.set_cons_succ]
    refine wpAnyT_ready (rs := [13]) (by kernel_rfl) (by simp) ?_
    refine consZ rfl (fun K hK => ?_) AllReadyT.nil
    go_simp
    refine hK.out _ _ hHeld (fun hHeld => ?_)
    clear hK K
    try simp only [Act.put, List.setIfInBounds_toArray, List.set_cons_zero, List.set_cons_succ]
    refine wpAnyT_ready (rs := [14]) (by kernel_rfl) (by simp) ?_
    refine consZ rfl (fun K hK => ?_) AllReadyT.nil
    go_simp
    refine hK.out _ _ hHeld (fun hHeld => ?_)
    clear hK K
    try simp only [Act.put, List.setIfInBounds_toArray, List.set_cons_zero, List.set_cons_succ]
    have hOa2a : Old W1b wa := Old.trans ((Old.alloc (Old.alloc hOd _) _)) hO
    have hBa := Blk.below E1b.out.1 hOa2a
    have f0 := hBa.frozen 0
    have q9 := hBa.cell 0
    simp at q9
    refine wpAnyT_ready (rs := [15]) (by kernel_rfl) (by simp) ?_
    refine consZl rfl (fun K hK => ?_) AllReadyT.nil
    go_simp
    refine hK.out _ _ ?_
    clear hK K
    try simp only [Act.put, List.setIfInBounds_toArray, List.set_cons_zero, List.set_cons_succ]
    refine wpAnyT_done (by kernel_rfl) ?_ _
    refine NoPanic.normal ?_
    try simp only [Exit.then]
    obtain ⟨W2a, hW⟩ : ∃ W, wa.setCell ⟨d, 0, none⟩ (.slice Ak2 32 ck2) = W := ⟨_, rfl⟩
    have hBd : Blk W2a d 54 #[.slice Ak2 32 ck2, .slice Av1 32 cv1, .int .i64 left] := by
      rw [← hW]
      have := hBa.set_ 0 (.slice Ak2 32 ck2)
      simpa using this
    have hTc : Turn [d] wa W2a := by
      rw [← hW]
      exact (Turn.refl _ _).setCell (.inl (by simp)) _
    have hTd : Turn [d] W1b W2a := (Turn.of_below [d] hOa2a).trans hTc (fun x hx => .inl hx)
    have hnd := hrn.turnN (by decide) hTc (one_noB d (NoB.of hBa rfl))
    have hod := (Rd.below E1b.out.2.1 hOa2a).turnN (by decide) hTc (one_noB d (NoB.of hBa rfl))
    have E2a := Lib.hid (And.intro hBd (And.intro hnd (And.intro hod hTd)))
    have HF2a := Lib.hid hfr
    rw [hW]
    clear hBa f0 q9 hW hBd hTc hTd hnd hod hrn hO hfr hOa2a hHeld hOd
    go_wp2_with fail
    have Q0 := Lib.hid (show W2a.cell? ⟨d, 0, none⟩ = some (.slice Ak2 32 ck2) ∧ W2a.cell? ⟨d, 1, none⟩ = some (.slice Av1 32 cv1) from ⟨by have := Blk.cell E2a.out.1 0; simpa using this, by have := Blk.cell E2a.out.1 1; simpa using this⟩)
    refine region_oldZ 13 (by kernel_rfl) (fun wd hHeld hSz => ?_)
    have HSz := Lib.hid hSz
    clear hSz
    have hOd := hHeld
    refine takeZ (z := 13) (by kernel_rfl) (i := 0) (v := ?_) rfl (by kernel_rfl) (by kernel_rfl) (by kernel_rfl) (fun _ _ _ h => h) (Or.inl ⟨by rfl, ?_⟩) hHeld ?_
    rotate_left
    focus (intro wq hSw; clear hSw; go_simp; try with_reducible rfl)
    try simp only [Act.put, List.setIfInBounds_toArray, List.set_cons_zero, List.set_cons_succ]
    refine takeZ (z := 13) (by kernel_rfl) (i := 1) (v := ?_) rfl (by kernel_rfl) (by kernel_rfl) (by kernel_rfl) (fun _ _ _ h => h) (Or.inl ⟨by rfl, ?_⟩) hHeld ?_
    rotate_left
    focus (intro wq hSw; clear hSw; go_simp; try with_reducible rfl)
    try simp only [Act.put, List.setIfInBounds_toArray, List.set_cons_zero, List.set_cons_succ]
    refine takeZ (z := 13) (by kernel_rfl) (i := 2) (v := ?_) rfl (by kernel_rfl) (by kernel_rfl) (by kernel_rfl) (fun _ _ _ h => h) (Or.inl ⟨by rfl, ?_⟩) hHeld ?_
    rotate_left
    focus (intro wq hSw; clear hSw; go_simp; try with_reducible rfl)
    try simp only [Act.put, List.setIfInBounds_toArray, List.set_cons_zero, List.set_cons_succ]
    refine takeZ (z := 13) (by kernel_rfl) (i := 3) (v := ?_) rfl (by kernel_rfl) (by kernel_rfl) (by kernel_rfl) (fun _ _ _ h => h) (Or.inl ⟨by rfl, ?_⟩) hHeld ?_
    rotate_left
    focus (intro wq hSw; clear hSw; go_simp; try with_reducible rfl)
    try simp only [Act.put, List.setIfInBounds_toArray, List.set_cons_zero, List.set_cons_succ]
    refine takeZ (z := 13) (by kernel_rfl) (i := 4) (v := ?_) rfl (by kernel_rfl) (by kernel_rfl) (by kernel_rfl) (fun _ _ _ h => h) (Or.inl ⟨by rfl, ?_⟩) hHeld ?_
    rotate_left
    focus (intro wq hSw; have q0 := cellOld hSw Q0.out.1; clear hSw; go_simp; try with_reducible rfl)
    try simp only [Act.put, List.setIfInBounds_toArray, List.set_cons_zero, List.set_cons_succ]
    refine takeZ (z := 13) (by kernel_rfl) (i := 5) (v := ?_) rfl (by kernel_rfl) (by kernel_rfl) (by kernel_rfl) (fun _ _ _ h => h) (Or.inl ⟨by rfl, ?_⟩) hHeld ?_
    rotate_left
    focus (intro wq hSw; clear hSw; go_simp; try with_reducible rfl)
    try simp only [Act.put, List.setIfInBounds_toArray, List.set_cons_zero, List.set_cons_succ]
    refine takeZ (z := 13) (by kernel_rfl) (i := 6) (v := ?_) rfl (by kernel_rfl) (by kernel_rfl) (by kernel_rfl) (fun _ _ _ h => h) (Or.inl ⟨by rfl, ?_⟩) hHeld ?_
    rotate_left
    focus (intro wq hSw; clear hSw; go_simp; try with_reducible rfl)
    try simp only [Act.put, List.setIfInBounds_toArray, List.set_cons_zero, List.set_cons_succ]
    refine takeZ (z := 13) (by kernel_rfl) (i := 7) (v := ?_) rfl (by kernel_rfl) (by kernel_rfl) (by kernel_rfl) (fun _ _ _ h => h) (Or.inl ⟨by rfl, ?_⟩) hHeld ?_
    rotate_left
    focus (intro wq hSw; clear hSw; go_simp; try with_reducible rfl)
    try simp only [Act.put, List.setIfInBounds_toArray, List.set_cons_zero, List.set_cons_succ]
    refine takeZ (z := 13) (by kernel_rfl) (i := 8) (v := ?_) rfl (by kernel_rfl) (by kernel_rfl) (by kernel_rfl) (fun _ _ _ h => h) (Or.inl ⟨by rfl, ?_⟩) hHeld ?_
    rotate_left
    focus (intro wq hSw; have q1 := cellOld hSw Q0.out.2; clear hSw; go_simp; try with_reducible rfl)
    try simp only [Act.put, List.setIfInBounds_toArray, List.set_cons_zero, List.set_cons_succ]
    refine wpAnyT_ready (rs := [9]) (by kernel_rfl) (by simp) ?_
    refine consZ rfl (fun K hK => ?_) AllReadyT.nil
    go_simp
    refine hK.out _ _ (by repeat (first | exact hHeld | exact Old.refl _ | assumption | refine Old.drew ?_ | refine Old.drewN ?_ _ | refine Old.alloc ?_ _)) (fun hHeld => ?_)
    clear hK K
    try simp only [Act.put, List.setIfInBounds_toArray, List.set_cons_zero, List.set_cons_succ]
    refine wpAnyT_ready (rs := [10]) (by kernel_rfl) (by simp) ?_
    refine consZ rfl (fun K hK => ?_) AllReadyT.nil
    go_simp
    refine (rmac_one ⟨hm (s.half 0 data).K ((s.half 0 data).V ++ [1] ++ data), (s.half 0 data).V⟩ Ak2 Av1 ck2 cv1 wd (Rd.below E2a.out.2.1 hOd) (Rd.below E2a.out.2.2.1 hOd)).mono ?_
    rintro e wa ⟨Av2, cv2, rfl, hrn, hO, hfr⟩
    refine hK.out _ _ ((hHeld).trans hO) (fun hHeld => ?_)
    clear hK K
    try simp only [Act.put, List.setIfInBounds_toArray, List.set_cons_zero, List.set_cons_succ]
    refine wpAnyT_ready (rs := [11]) (by kernel_rfl) (by simp) ?_
    refine consZ rfl (fun K hK => ?_) AllReadyT.nil
    go_simp
    refine hK.out _ _ hHeld (fun hHeld => ?_)
    clear hK K
    try simp only [Act.put, List.setIfInBounds_toArray, List.set_cons_zero, List.set_cons_succ]
    refine wpAnyT_ready (rs := [12]) (by kernel_rfl) (by simp) ?_
    refine consZ rfl (fun K hK => ?_) AllReadyT.nil
    go_simp
    refine hK.out _ _ hHeld (fun hHeld => ?_)
    clear hK K
    try simp only [Act.put, List.setIfInBounds_toArray, List.set_cons_zero, List.set_cons_succ]
    have hOa2b : Old W2a wa := Old.trans (Old.alloc hOd _) hO
    have hBa := Blk.below E2a.out.1 hOa2b
    have f0 := hBa.frozen 1
    have q9 := hBa.cell 1
    simp at q9
    refine wpAnyT_ready (rs := [13]) (by kernel_rfl) (by simp) ?_
    refine consZl rfl (fun K hK => ?_) AllReadyT.nil
    go_simp
    refine hK.out _ _ ?_
    clear hK K
    try simp only [Act.put, List.setIfInBounds_toArray, List.set_cons_zero, List.set_cons_succ]
    refine wpAnyT_done (by kernel_rfl) ?_ _
    refine NoPanic.normal ?_
    try simp only [Exit.then]
    obtain ⟨W2b, hW⟩ : ∃ W, wa.setCell ⟨d, 1, none⟩ (.slice Av2 32 cv2) = W := ⟨_, rfl⟩
    have hBd : Blk W2b d 54 #[.slice Ak2 32 ck2, .slice Av2 32 cv2, .int .i64 left] := by
      rw [← hW]
      have := hBa.set_ 1 (.slice Av2 32 cv2)
      simpa using this
    have hTc : Turn [d] wa W2b := by
      rw [← hW]
      exact (Turn.refl _ _).setCell (.inl (by simp)) _
    have hTd : Turn [d] W2a W2b := (Turn.of_below [d] hOa2b).trans hTc (fun x hx => .inl hx)
    have hnd := hrn.turnN (by decide) hTc (one_noB d (NoB.of hBa rfl))
    have hod := (Rd.below E2a.out.2.1 hOa2b).turnN (by decide) hTc (one_noB d (NoB.of hBa rfl))
    have E2b := Lib.hid (And.intro hBd (And.intro hnd (And.intro hod hTd)))
    have HF2b := Lib.hid hfr
    rw [hW]
    clear hBa f0 q9 hW hBd hTc hTd hnd hod hrn hO hfr hOa2b hHeld hOd
    go_wp2_with fail
    refine bodyPost_end (results_none rfl _ _ _) rfl ?_
    exact ⟨rfl, ⟨_, _, _, _, E2b.out.1, E2b.out.2.2.1, E2b.out.2.1⟩, HR1.out.2.trans (E2a.out.2.2.2.trans E2b.out.2.2.2 (fun x hx => .inl hx)) (fun x hx => .inl hx)⟩
end Go.Proofs.YtdgjjmaiibafhaaDoor
namespace Go.Proofs.YtdgjjmaiibafhaaDoor
set_option maxRecDepth 100000
open Go.RowKit

/-- What stands at every round of the reference. -/
def LoopE (wr : World) (d : Nat) (A1 : Option Addr) (c1 : Nat) (v : Value) (s : DS) (left : Int) : Prop := ∃ A2 c2, Blk wr d 54 #[.slice A1 32 c1, .slice A2 32 c2, .int .i64 left] ∧ Rd wr A1 32 c1 s.K ∧ Rd wr A2 32 c2 s.V ∧ ∀ ad, A2 = some ad → v.ownBlock ≠ some ad.block
set_option maxHeartbeats 4000000 in
theorem rbytes_any (d : Nat) (s : DS) (left : Int) (n : Nat) (w : World) (h : ErAt w d s left) (h1 : 1 ≤ n) (hn : n ≤ 65536) (hl0 : 0 ≤ left) (hl1 : left ≤ 1000000000) :
    Calls Tryd.prog 30 #[.pointer (some ⟨d, 0, none⟩), .int .i64 (n : Int)] w fun e w' => ∃ A c, e = .returned (.slice A n c) ∧ Rd w' A n c (s.bytes n).1 ∧ (∀ ad, A = some ad → w.heap.size ≤ ad.block) ∧ ErAt w' d (s.bytes n).2 (left + 1) ∧ Turn [d] w w' := by
  have hok := h.ok
  obtain ⟨A1, c1, A2, c2, hB, r1, r2⟩ := h
  have H := Lib.hid (And.intro hB (And.intro True.intro (And.intro True.intro (And.intro hok (And.intro r1 (And.intro r2 (show ∀ ad, A1 = some ad → ad.block < w.heap.size from r1.lt)))))))
  have HL := Lib.hid (And.intro hl0 hl1)
  have t1 : ¬ (n : Int) < 1 := by omega
  have t2 : ¬ (65536 : Int) < n := by omega
  obtain ⟨X, hX⟩ : ∃ X, w.heap.size = X := ⟨_, rfl⟩
  have HX := Lib.hid hX
  rw [hX]
  clear hB r1 r2 hok hl0 hl1 hX
  go_enter Tryd.func30, Tryd.ntmps30
  go_wp2_with fail
  go_loopw [5] (fun v wr => ∃ (k : Nat) (A : Option Addr) (n5 c5 : Nat), v = .slice A n5 c5 ∧ n5 = 32 * k ∧ k ≤ DS.rounds n ∧ Own wr X (.slice A n5 c5) (s.gen k).1 ∧ LoopE wr d A1 c1 (.slice A n5 c5) (s.gen k).2 left ∧ Turn [d] w wr) (fun v _ => 65600 - sliceLen v)
  case atStart => exact ⟨0, none, 0, 0, rfl, rfl, Nat.zero_le _, Own.nil _ _, ⟨A2, c2, H.out.1, H.out.2.2.2.2.1, H.out.2.2.2.2.2.1, fun ad had => by simp [Value.ownBlock]⟩, Turn.refl _ _⟩
  case round =>
    obtain ⟨k, A5, n5, c5, rfl, hn5, hk, hO, hD, hTw⟩ := hrel
    have hkr : 32 * k ≤ n + 31 := by unfold DS.rounds at hk; omega
    by_cases hlt : n5 < n
    · have hlti : (n5 : Int) < n := by omega
      have hltd : decide ((n5 : Int) < (n : Int)) = true := decide_eq_true hlti
      obtain ⟨A2, c2, hB, r1, r2, _⟩ := hD
      obtain ⟨s1, hs1⟩ : ∃ s1, (s.gen k).2 = s1 := ⟨_, rfl⟩
      rw [hs1] at r1 r2
      have hk1 : k + 1 ≤ DS.rounds n := by unfold DS.rounds; omega
      have hgen : (s.gen (k + 1)).1 = (s.gen k).1 ++ hm s1.K s1.V ∧ (s.gen (k + 1)).2 = ⟨s1.K, hm s1.K s1.V⟩ := by rw [← hs1]; exact ⟨rfl, rfl⟩
      have hgl : (s.gen k).1.length = 32 * k := DS.gen_len H.out.2.2.2.1 k
      have HR := Lib.hid (And.intro hB (And.intro r1 (And.intro hO (And.intro hTw (And.intro hk1 (And.intro hgen (And.intro hgl r2)))))))
      have hn5r : n5 ≤ 65536 := by omega
      have HN := Lib.hid hn5
      clear hB r1 r2 hO hTw hk1 hgen hgl hs1 hk hn5 hkr
      go_wp2_with fail
      have Q0 := Lib.hid (show wr.cell? ⟨d, 0, none⟩ = some (.slice A1 32 c1) ∧ wr.cell? ⟨d, 1, none⟩ = some (.slice A2 32 c2) from ⟨by have := Blk.cell HR.out.1 0; simpa using this, by have := Blk.cell HR.out.1 1; simpa using this⟩)
      refine region_oldZ 13 (by kernel_rfl) (fun wd hHeld hSz => ?_)
      have HSz := Lib.hid hSz
      clear hSz
      have hOd := hHeld
      refine takeZ (z := 13) (by kernel_rfl) (i := 0) (v := ?_) rfl (by kernel_rfl) (by kernel_rfl) (by kernel_rfl) (fun _ _ _ h => h) (Or.inl ⟨by rfl, ?_⟩) hHeld ?_
      rotate_left
      focus (intro wq hSw; clear hSw; go_simp; try with_reducible rfl)
      try simp only [Act.put, List.setIfInBounds_toArray, List.set_cons_zero, List.set_cons_succ]
      refine takeZ (z := 13) (by kernel_rfl) (i := 1) (v := ?_) rfl (by kernel_rfl) (by kernel_rfl) (by kernel_rfl) (fun _ _ _ h => h) (Or.inl ⟨by rfl, ?_⟩) hHeld ?_
      rotate_left
      focus (intro wq hSw; clear hSw; go_simp; try with_reducible rfl)
      try simp only [Act.put, List.setIfInBounds_toArray, List.set_cons_zero, List.set_cons_succ]
      refine takeZ (z := 13) (by kernel_rfl) (i := 2) (v := ?_) rfl (by kernel_rfl) (by kernel_rfl) (by kernel_rfl) (fun _ _ _ h => h) (Or.inl ⟨by rfl, ?_⟩) hHeld ?_
      rotate_left
      focus (intro wq hSw; clear hSw; go_simp; try with_reducible rfl)
      try simp only [Act.put, List.setIfInBounds_toArray, List.set_cons_zero, List.set_cons_succ]
      refine takeZ (z := 13) (by kernel_rfl) (i := 3) (v := ?_) rfl (by kernel_rfl) (by kernel_rfl) (by kernel_rfl) (fun _ _ _ h => h) (Or.inl ⟨by rfl, ?_⟩) hHeld ?_
      rotate_left
      focus (intro wq hSw; clear hSw; go_simp; try with_reducible rfl)
      try simp only [Act.put, List.setIfInBounds_toArray, List.set_cons_zero, List.set_cons_succ]
      refine takeZ (z := 13) (by kernel_rfl) (i := 4) (v := ?_) rfl (by kernel_rfl) (by kernel_rfl) (by kernel_rfl) (fun _ _ _ h => h) (Or.inl ⟨by rfl, ?_⟩) hHeld ?_
      rotate_left
      focus (intro wq hSw; have q0 := cellOld hSw Q0.out.1; clear hSw; go_simp; try with_reducible rfl)
      try simp only [Act.put, List.setIfInBounds_toArray, List.set_cons_zero, List.set_cons_succ]
      refine takeZ (z := 13) (by kernel_rfl) (i := 5) (v := ?_) rfl (by kernel_rfl) (by kernel_rfl) (by kernel_rfl) (fun _ _ _ h => h) (Or.inl ⟨by rfl, ?_⟩) hHeld ?_
      rotate_left
      focus (intro wq hSw; clear hSw; go_simp; try with_reducible rfl)
      try simp only [Act.put, List.setIfInBounds_toArray, List.set_cons_zero, List.set_cons_succ]
      refine takeZ (z := 13) (by kernel_rfl) (i := 6) (v := ?_) rfl (by kernel_rfl) (by kernel_rfl) (by kernel_rfl) (fun _ _ _ h => h) (Or.inl ⟨by rfl, ?_⟩) hHeld ?_
      rotate_left
      focus (intro wq hSw; clear hSw; go_simp; try with_reducible rfl)
      try simp only [Act.put, List.setIfInBounds_toArray, List.set_cons_zero, List.set_cons_succ]
      refine takeZ (z := 13) (by kernel_rfl) (i := 7) (v := ?_) rfl (by kernel_rfl) (by kernel_rfl) (by kernel_rfl) (fun _ _ _ h => h) (Or.inl ⟨by rfl, ?_⟩) hHeld ?_
      rotate_left
      focus (intro wq hSw; clear hSw; go_simp; try with_reducible rfl)
      try simp only [Act.put, List.setIfInBounds_toArray, List.set_cons_zero, List.set_cons_succ]
      refine takeZ (z := 13) (by kernel_rfl) (i := 8) (v := ?_) rfl (by kernel_rfl) (by kernel_rfl) (by kernel_rfl) (fun _ _ _ h => h) (Or.inl ⟨by rfl, ?_⟩) hHeld ?_
      rotate_left
      focus (intro wq hSw; have q1 := cellOld hSw Q0.out.2; clear hSw; go_simp; try with_reducible rfl)
      try simp only [Act.put, List.setIfInBounds_toArray, List.set_cons_zero, List.set_cons_succ]
      refine wpAnyT_ready (rs := [9]) (by kernel_rfl) (by simp) ?_
      refine consZ rfl (fun K hK => ?_) AllReadyT.nil
      go_simp
      refine hK.out _ _ (by repeat (first | exact hHeld | exact Old.refl _ | assumption | refine Old.drew ?_ | refine Old.drewN ?_ _ | refine Old.alloc ?_ _)) (fun hHeld => ?_)
      clear hK K
      try simp only [Act.put, List.setIfInBounds_toArray, List.set_cons_zero, List.set_cons_succ]
      refine wpAnyT_ready (rs := [10]) (by kernel_rfl) (by simp) ?_
      refine consZ rfl (fun K hK => ?_) AllReadyT.nil
      go_simp
      refine (rmac_one s1 A1 A2 c1 c2 wd (Rd.below HR.out.2.1 hOd) (Rd.below HR.out.2.2.2.2.2.2.2 hOd)).mono ?_
      rintro e wa ⟨Av, cv, rfl, hrn, hO, hfr⟩
      refine hK.out _ _ ((hHeld).trans hO) (fun hHeld => ?_)
      clear hK K
      try simp only [Act.put, List.setIfInBounds_toArray, List.set_cons_zero, List.set_cons_succ]
      refine wpAnyT_ready (rs := [11]) (by kernel_rfl) (by simp) ?_
      refine consZ rfl (fun K hK => ?_) AllReadyT.nil
      go_simp
      refine hK.out _ _ hHeld (fun hHeld => ?_)
      clear hK K
      try simp only [Act.put, List.setIfInBounds_toArray, List.set_cons_zero, List.set_cons_succ]
      refine wpAnyT_ready (rs := [12]) (by kernel_rfl) (by simp) ?_
      refine consZ rfl (fun K hK => ?_) AllReadyT.nil
      go_simp
      refine hK.out _ _ hHeld (fun hHeld => ?_)
      clear hK K
      try simp only [Act.put, List.setIfInBounds_toArray, List.set_cons_zero, List.set_cons_succ]
      have hOa9 : Old wr wa := Old.trans (Old.alloc hOd _) hO
      have hBa := Blk.below HR.out.1 hOa9
      have f0 := hBa.frozen 1
      have q9 := hBa.cell 1
      simp at q9
      refine wpAnyT_ready (rs := [13]) (by kernel_rfl) (by simp) ?_
      refine consZl rfl (fun K hK => ?_) AllReadyT.nil
      go_simp
      refine hK.out _ _ ?_
      clear hK K
      try simp only [Act.put, List.setIfInBounds_toArray, List.set_cons_zero, List.set_cons_succ]
      refine wpAnyT_done (by kernel_rfl) ?_ _
      refine NoPanic.normal ?_
      try simp only [Exit.then]
      obtain ⟨W9, hW⟩ : ∃ W, wa.setCell ⟨d, 1, none⟩ (.slice Av 32 cv) = W := ⟨_, rfl⟩
      have hBd : Blk W9 d 54 #[.slice A1 32 c1, .slice Av 32 cv, .int .i64 left] := by
        rw [← hW]
        have := hBa.set_ 1 (.slice Av 32 cv)
        simpa using this
      have hTc : Turn [d] wa W9 := by
        rw [← hW]
        exact (Turn.refl _ _).setCell (.inl (by simp)) _
      have hTd : Turn [d] wr W9 := (Turn.of_below [d] hOa9).trans hTc (fun x hx => .inl hx)
      have hnd := hrn.turnN (by decide) hTc (one_noB d (NoB.of hBa rfl))
      have hod := (Rd.below HR.out.2.1 hOa9).turnN (by decide) hTc (one_noB d (NoB.of hBa rfl))
      have E9 := Lib.hid (And.intro hBd (And.intro hnd (And.intro hod hTd)))
      have HF9 := Lib.hid hfr
      rw [hW]
      clear hBa f0 q9 hW hBd hTc hTd hnd hod hrn hO hfr hOa9 hHeld hOd
      have hOd : Own W9 X (.slice A5 n5 c5) (s.gen k).1 := HR.out.2.2.1.turnB E9.out.2.2.2 HR.out.1 (by decide)
      have hXW : X ≤ W9.heap.size := Nat.le_trans (by rw [← HX.out]; exact HR.out.2.2.2.1.size) E9.out.2.2.2.size
      have q1' := Blk.cell E9.out.1 1
      simp at q1'
      have HW := Lib.hid (And.intro E9.out.1 (And.intro E9.out.2.2.1 (And.intro E9.out.2.1 (And.intro hOd (And.intro E9.out.2.2.2 (And.intro hXW (And.intro True.intro (And.intro (show (hm s1.K s1.V).length = 32 from E9.out.2.1.1.symm) (And.intro (show ∀ ad, Av = some ad → wr.heap.size ≤ ad.block from fun ad had => by have := HF9.out ad had; have := HSz.out; omega) (show ∀ ad, Av = some ad → ad.block < W9.heap.size from E9.out.2.1.lt))))))))))
      clear hOd hXW
      go_wp2_with (at_builtin; go_loud (refine wp_app2 (.tmp 29) (.tmp 33) X (.slice A5 n5 c5) (s.gen k).1 HW.out.2.2.2.1 HW.out.2.2.2.2.2.1 Av 32 cv (hm s1.K s1.V) HW.out.2.2.1 (by have := HR.out.2.2.2.2.2.2.1; have := HW.out.2.2.2.2.2.2.2.1; have := HN.out; omega) rfl rfl rfl rfl ?_); intro A9 n9 c9 w9 hn9 hG; have HG := Lib.hid hG; clear hG)
      go_roundw
      case measure => have h9 := HG.out.len; rw [List.length_append, HR.out.2.2.2.2.2.2.1, HW.out.2.2.2.2.2.2.2.1] at h9; have := HN.out; simp [sliceLen]; omega
      have hG := HG.out
      have hT9 : Turn (Value.slice A5 n5 c5).ownBlock.toList W9 w9 := ⟨hG.grown.os, hG.grown.tape, hG.grown.output, hG.grown.size, fun q hq hm => hG.grown.block q hq (fun e => hm (by rw [← e]; simp))⟩
      have hnd : d ∉ (Value.slice A5 n5 c5).ownBlock.toList := fun hm => HW.out.2.2.2.1.ne HW.out.1 (by decide) (by simpa using hm)
      have hX5 : ∀ g ∈ (Value.slice A5 n5 c5).ownBlock.toList, X ≤ g ∧ g < wr.heap.size := fun g hg => HR.out.2.2.1.lt (by simpa using hg)
      have hr1 : Rd w9 A1 32 c1 s1.K := HW.out.2.1.turn hT9 fun ad had hm => by have := (hX5 _ hm).1; have := H.out.2.2.2.2.2.2 ad had; have := HX.out; omega
      have hr2 : Rd w9 Av 32 cv (hm s1.K s1.V) := HW.out.2.2.1.turn hT9 fun ad had hm => by have := (hX5 _ hm).2; have := HW.out.2.2.2.2.2.2.2.2.1 ad had; omega
      have hn9' : n9 = 32 * (k + 1) := by have h9 := hG.len; rw [List.length_append, HR.out.2.2.2.2.2.2.1, HW.out.2.2.2.2.2.2.2.1] at h9; omega
      refine ⟨k + 1, A9, n9, c9, rfl, hn9', HR.out.2.2.2.2.1, ?_, ⟨Av, cv, HW.out.1.turn hT9 hnd, ?_, ?_, fun ad had => ?_⟩, ?_⟩
      · rw [HR.out.2.2.2.2.2.1.1]; exact hG.own
      · rw [HR.out.2.2.2.2.2.1.2]; exact hr1
      · rw [HR.out.2.2.2.2.2.1.2]; exact hr2
      · have hlt2 := HW.out.2.2.2.2.2.2.2.2.2 ad had
        have hge2 := HW.out.2.2.2.2.2.2.2.2.1 ad had
        rcases hG.at_ with e | e
        · rw [e]
          intro e2
          have := (HR.out.2.2.1.lt e2).2
          omega
        · rw [e]
          intro e2
          injection e2 with e2
          omega
      · refine (HR.out.2.2.2.1.trans HW.out.2.2.2.2.1 (fun x hx => .inl hx)).trans hT9 fun x hx => ?_
        have := (hX5 x hx).1
        have := HX.out
        exact .inr (by omega)
    · have hlti : ¬ (n5 : Int) < n := by omega
      have hltd : decide ((n5 : Int) < (n : Int)) = false := decide_eq_false hlti
      have hkk : k = DS.rounds n := by unfold DS.rounds at hk ⊢; omega
      subst hkk
      obtain ⟨s1, hs1⟩ : ∃ s1, (s.gen (DS.rounds n)).2 = s1 := ⟨_, rfl⟩
      rw [hs1] at hD
      obtain ⟨A2, c2, hB, r1, r2, _⟩ := hD
      have hup := rupdate_any d s1 left none 0 0 [] wr ⟨A1, c1, A2, c2, hB, r1, r2⟩ (Rd.nil wr) (by simp)
      have hc5 := hO.rd.2.1
      have hs3 := slice_to A5 n5 c5 n (fun ad had => hO.rd.spot ad had) (by omega)
      have HR := Lib.hid (And.intro hB (And.intro hO (And.intro hTw (And.intro hs1 (show n ≤ n5 by omega)))))
      clear hB r1 r2 hO hTw hk hs1 hn5 hkr
      go_wp2_with fail
      refine hup.mono ?_
      rintro e w2 ⟨rfl, ⟨A3, c3, A4, c4, hB2, r3, r4⟩, hT2⟩
      have f2 := hB2.frozen 2
      have q2 := hB2.cell 2
      simp at q2
      have hwr : IntKind.i64.wrap (left + 1) = left + 1 := IntWalk.i64_in _ (by have := HL.out; omega)
      obtain ⟨W, hW⟩ : ∃ W, w2.setCell ⟨d, 2, none⟩ (.int .i64 (left + 1)) = W := ⟨_, rfl⟩
      have hBd : Blk W d 54 #[.slice A3 32 c3, .slice A4 32 c4, .int .i64 (left + 1)] := by
        rw [← hW]
        have := hB2.set_ 2 (.int .i64 (left + 1))
        simpa using this
      have hTc : Turn [d] w2 W := by
        rw [← hW]
        exact (Turn.refl _ _).setCell (.inl (by simp)) _
      have hTd : Turn [d] wr W := hT2.trans hTc (fun x hx => .inl hx)
      have hD9 : ErAt W d (s1.upd []) (left + 1) := ⟨A3, c3, A4, c4, hBd, r3.turnN (by decide) hTc (one_noB d (NoB.of hB2 rfl)), r4.turnN (by decide) hTc (one_noB d (NoB.of hB2 rfl))⟩
      have hO9 : Own W X (.slice A5 n5 c5) (s.gen (DS.rounds n)).1 := HR.out.2.1.turnB hTd HR.out.1 (by decide)
      have H9 := Lib.hid (And.intro hD9 (And.intro hO9 (HR.out.2.2.1.trans hTd (fun x hx => .inl hx))))
      have HW := Lib.hid hW
      clear hup hB2 r3 r4 hT2 hBd hTc hTd hD9 hO9 hW
      go_wp2_with fail
      rw [HW.out]
      go_ret
      have hb : s.bytes n = ((s.gen (DS.rounds n)).1.take n, s1.upd []) := by rw [← HR.out.2.2.2.1]; rfl
      rw [hb]
      exact ⟨A5, c5, rfl, H9.out.2.1.rd.front (k := n) HR.out.2.2.2.2, fun ad had => H9.out.2.1.addr_ge ad had, H9.out.1, H9.out.2.2⟩
end Go.Proofs.YtdgjjmaiibafhaaDoor
namespace Go.Proofs.YtdgjjmaiibafhaaDoor
set_option maxRecDepth 100000
open Go.RowKit

/-- What stands while the value's row is filled. -/
structure RNewI (w wr : World) (d gk gv : Nat) (l : List UInt8) : Prop where
  bl : Blk wr d 54 #[.slice (some ⟨gk, 0, none⟩) 32 32, .slice (some ⟨gv, 0, none⟩) 32 32, .int .i64 0]
  ok : Own wr w.heap.size (.slice (some ⟨gk, 0, none⟩) 32 32) (zs 32)
  ov : Own wr w.heap.size (.slice (some ⟨gv, 0, none⟩) 32 32) l
  O : Old w wr
  ne : gk ≠ gv
  ld : w.heap.size ≤ d
theorem RNewI.set {w wr : World} {d gk gv : Nat} {l : List UInt8} (h : RNewI w wr d gk gv l) (k : Nat) (hk : k < 32) : RNewI w (wr.setCell ⟨gv, k, none⟩ (B 1)) d gk gv (l.set k 1) := by
  have ht : Turn [gv] wr (wr.setCell ⟨gv, k, none⟩ (B 1)) := (Turn.refl _ _).setCell (.inl (by simp)) _
  have hdv : d ≠ gv := fun e => by
    have := h.ov.ne h.bl (by decide)
    rw [e] at this
    exact this rfl
  exact ⟨h.bl.far hdv _, h.ok.turn ht fun g hg => by cases hg; simp; exact h.ne, h.ov.set_ k 1 hk, below_turn h.O ht (by have := (h.ov.lt (g := gv) rfl).1; simp; omega) h.O.size, h.ne, h.ld⟩
set_option maxHeartbeats 4000000 in
theorem rnew_any (A3 : Option Addr) (m3 c3 : Nat) (ent : List UInt8) (w : World) (hr : Rd w A3 m3 c3 ent) (hl : ent.length ≤ 140737488351300) :
    Calls Tryd.prog 13 #[.slice A3 m3 c3] w fun e w' => ∃ d, e = .returned (.pointer (some ⟨d, 0, none⟩)) ∧ ErAt w' d (DS.new ent) 0 ∧ w.heap.size ≤ d ∧ Old w w' := by
  have H := Lib.hid (And.intro hr hl)
  have hmk := Tryd.prog_make 32 (by decide)
  rw [show ((32 : Nat) : Int) = 32 from rfl] at hmk
  clear hr hl
  go_enter Tryd.func13, Tryd.ntmps13
  go_wp2_with fail
  refine region_old (by kernel_rfl) (fun wd hHeld hSz => ?_)
  have hOd := hHeld
  clear hSz
  refine wpAnyH_ready (rs := [0, 1]) (by kernel_rfl) (by simp) ?_
  refine consL rfl (fun K hK => ?_) (consL rfl (fun K hK => ?_) AllReadyH.nil)
  · go_simp
    refine hK.out _ _ (by repeat (first | exact hHeld | exact Old.refl _ | assumption | refine Old.drew ?_ | refine Old.drewN ?_ _ | refine Old.alloc ?_ _)) (fun hHeld => ?_)
    clear hK K
    try simp only [Act.put, List.setIfInBounds_toArray, List.set_cons_zero, List.set_cons_succ]
    refine wpAnyH_ready (rs := [1]) (by kernel_rfl) (by simp) ?_
    refine consL rfl (fun K hK => ?_) AllReadyH.nil
    go_simp
    refine hK.out _ _ (by repeat (first | exact hHeld | exact Old.refl _ | assumption | refine Old.drew ?_ | refine Old.drewN ?_ _ | refine Old.alloc ?_ _)) (fun hHeld => ?_)
    clear hK K
    try simp only [Act.put, List.setIfInBounds_toArray, List.set_cons_zero, List.set_cons_succ]
    refine takeL (i := 2) (v := ?_) rfl (by kernel_rfl) (by kernel_rfl) (by kernel_rfl) (fun _ _ _ h => h) (Or.inl ⟨by rfl, ?_⟩) hHeld ?_
    rotate_left
    focus (intro wq hSw; clear hSw; go_simp; try with_reducible rfl)
    try simp only [Act.put, List.setIfInBounds_toArray, List.set_cons_zero, List.set_cons_succ]
    refine wpAnyH_ready (rs := [3]) (by kernel_rfl) (by simp) ?_
    refine consL rfl (fun K hK => ?_) AllReadyH.nil
    go_simp
    refine hK.out _ _ (by repeat (first | exact hHeld | exact Old.refl _ | assumption | refine Old.drew ?_ | refine Old.drewN ?_ _ | refine Old.alloc ?_ _)) (fun hHeld => ?_)
    clear hK K
    try simp only [Act.put, List.setIfInBounds_toArray, List.set_cons_zero, List.set_cons_succ]
    refine takeL (i := 4) (v := ?_) rfl (by kernel_rfl) (by kernel_rfl) (by kernel_rfl) (fun _ _ _ h => h) (Or.inl ⟨by rfl, ?_⟩) hHeld ?_
    rotate_left
    focus (intro wq hSw; clear hSw; go_simp; try with_reducible rfl)
    try simp only [Act.put, List.setIfInBounds_toArray, List.set_cons_zero, List.set_cons_succ]
    refine wpAnyH_done (by kernel_rfl) ?_ _
    refine NoPanic.normal ?_
    try simp only [Exit.then]
    obtain ⟨gk, hgk⟩ : ∃ g, wd.heap.size = g := ⟨_, rfl⟩
    rw [hgk]
    obtain ⟨gv, hgv⟩ : ∃ g, gk + 1 = g := ⟨_, rfl⟩
    rw [hgv]
    obtain ⟨d, hd⟩ : ∃ d, gv + 1 = d := ⟨_, rfl⟩
    rw [hd]
    obtain ⟨wx, hwx⟩ : ∃ wx, (((wd.alloc (.cells (madeCells #[.int .u8 0] 32) 5)).alloc (.cells (madeCells #[.int .u8 0] 32) 5)).alloc (.cells #[.slice (some ⟨gk, 0, none⟩) 32 32, .slice (some ⟨gv, 0, none⟩) 32 32, .int .i64 0] 54)) = wx := ⟨_, rfl⟩
    have hH : RNewI w wx d gk gv (zs 32) := by
      have h2 := two_zeros wd 32 (by decide)
      obtain ⟨h21, h22, _⟩ := h2
      have hOld : Old w wx := by rw [← hwx]; exact ((hOd.alloc _).alloc _).alloc _
      have hb3 := Old.alloc (Old.refl ((wd.alloc (.cells (madeCells #[.int .u8 0] 32) 5)).alloc (.cells (madeCells #[.int .u8 0] 32) 5))) (.cells #[.slice (some ⟨gk, 0, none⟩) 32 32, .slice (some ⟨gv, 0, none⟩) 32 32, .int .i64 0] 54)
      have k1 := h21.below hb3
      have k2 := h22.below hb3
      rw [hwx] at k1 k2
      have hbx : Blk wx d 54 #[.slice (some ⟨gk, 0, none⟩) 32 32, .slice (some ⟨gv, 0, none⟩) 32 32, .int .i64 0] := by
        rw [← hwx, show d = wd.heap.size + 1 + 1 from by rw [← hd, ← hgv, ← hgk]]
        have h := Blk.new ((wd.alloc (.cells (madeCells #[.int .u8 0] 32) 5)).alloc (.cells (madeCells #[.int .u8 0] 32) 5)) 54 #[.slice (some ⟨gk, 0, none⟩) 32 32, .slice (some ⟨gv, 0, none⟩) 32 32, .int .i64 0]
        simpa using h
      have hs := hOd.size
      rw [hgk] at hs
      rw [hgk] at k1 k2
      rw [hgv] at k2
      exact ⟨hbx, k1.mono hs, k2.mono hs, hOld, by omega, by omega⟩
    try rw [hwx]
    have HH := Lib.hid hH
    clear hwx hgk hgv hd hHeld hOd hH
    go_wp2_with fail
    go_loopw [4] (fun v wr => ∃ (k : Nat) (l : List UInt8), k ≤ 32 ∧ v = .int .i64 (k : Int) ∧ RNewI w wr d gk gv l ∧ l.length = 32 ∧ l.take k = List.replicate k 1) (fun v _ => 32 - (intOf v).toNat)
    case atStart => exact ⟨0, zs 32, by omega, rfl, HH.out, zs_len 32, rfl⟩
    case round =>
      obtain ⟨k, l, hk, rfl, hI, hl, ht⟩ := hrel
      by_cases hlt : k < 32
      · have hlti : (k : Int) < 32 := by omega
        have hltd : decide ((k : Int) < 32) = true := decide_eq_true hlti
        have q1 := hI.bl.cell 1
        simp at q1
        have f0 := hI.ov.frozen k
        obtain ⟨x, hx⟩ : ∃ x, l[k]? = some x := ⟨_, List.getElem?_eq_getElem (by omega)⟩
        have v0 := hI.ov.cell k x hx
        have HI := Lib.hid (And.intro hI (And.intro hl ht))
        clear hI hl ht hk hx
        go_wp2_with fail
        go_roundw
        case measure => simp [intOf]; omega
        refine ⟨k + 1, l.set k 1, by omega, by simp, HI.out.1.set k (by have := HI.out.2.1; omega), by rw [List.length_set]; exact HI.out.2.1, ?_⟩
        rw [List.replicate_succ', ← HI.out.2.2]
        have hkl : k < l.length := by have := HI.out.2.1; omega
        rw [List.take_add_one, List.take_set_of_le (by omega)]
        simp [hkl]
      · obtain rfl : k = 32 := by omega
        have hlti : ¬ ((32 : Nat) : Int) < 32 := by omega
        have hltd : decide (((32 : Nat) : Int) < 32) = false := decide_eq_false hlti
        have hl32 : l = List.replicate 32 1 := by rw [← ht, List.take_of_length_le (by omega)]
        subst hl32
        have hup := rupdate_any d ⟨zs 32, List.replicate 32 1⟩ 0 A3 m3 c3 ent wr ⟨_, _, _, _, hI.bl, hI.ok.rd, hI.ov.rd⟩ (H.out.1.below hI.O) H.out.2
        have HI := Lib.hid hI
        clear hI hl ht hk
        go_wp2_with fail
        refine hup.mono ?_
        rintro e w5 ⟨rfl, hD5, hT5⟩
        have H5 := Lib.hid (And.intro hD5 (below_turn HI.out.O hT5 (by simp; exact HI.out.ld) HI.out.O.size))
        clear hup hD5 hT5
        go_wp2_with fail
        go_ret
        exact ⟨d, rfl, H5.out.1, HI.out.ld, H5.out.2⟩
  · go_simp
    refine hK.out _ _ (by repeat (first | exact hHeld | exact Old.refl _ | assumption | refine Old.drew ?_ | refine Old.drewN ?_ _ | refine Old.alloc ?_ _)) (fun hHeld => ?_)
    clear hK K
    try simp only [Act.put, List.setIfInBounds_toArray, List.set_cons_zero, List.set_cons_succ]
    refine wpAnyH_ready (rs := [0]) (by kernel_rfl) (by simp) ?_
    refine consL rfl (fun K hK => ?_) AllReadyH.nil
    go_simp
    refine hK.out _ _ (by repeat (first | exact hHeld | exact Old.refl _ | assumption | refine Old.drew ?_ | refine Old.drewN ?_ _ | refine Old.alloc ?_ _)) (fun hHeld => ?_)
    clear hK K
    try simp only [Act.put, List.setIfInBounds_toArray, List.set_cons_zero, List.set_cons_succ]
    refine takeL (i := 2) (v := ?_) rfl (by kernel_rfl) (by kernel_rfl) (by kernel_rfl) (fun _ _ _ h => h) (Or.inl ⟨by rfl, ?_⟩) hHeld ?_
    rotate_left
    focus (intro wq hSw; clear hSw; go_simp; try with_reducible rfl)
    try simp only [Act.put, List.setIfInBounds_toArray, List.set_cons_zero, List.set_cons_succ]
    refine wpAnyH_ready (rs := [3]) (by kernel_rfl) (by simp) ?_
    refine consL rfl (fun K hK => ?_) AllReadyH.nil
    go_simp
    refine hK.out _ _ (by repeat (first | exact hHeld | exact Old.refl _ | assumption | refine Old.drew ?_ | refine Old.drewN ?_ _ | refine Old.alloc ?_ _)) (fun hHeld => ?_)
    clear hK K
    try simp only [Act.put, List.setIfInBounds_toArray, List.set_cons_zero, List.set_cons_succ]
    refine takeL (i := 4) (v := ?_) rfl (by kernel_rfl) (by kernel_rfl) (by kernel_rfl) (fun _ _ _ h => h) (Or.inl ⟨by rfl, ?_⟩) hHeld ?_
    rotate_left
    focus (intro wq hSw; clear hSw; go_simp; try with_reducible rfl)
    try simp only [Act.put, List.setIfInBounds_toArray, List.set_cons_zero, List.set_cons_succ]
    refine wpAnyH_done (by kernel_rfl) ?_ _
    refine NoPanic.normal ?_
    try simp only [Exit.then]
    obtain ⟨gv, hgv⟩ : ∃ g, wd.heap.size = g := ⟨_, rfl⟩
    rw [hgv]
    obtain ⟨gk, hgk⟩ : ∃ g, gv + 1 = g := ⟨_, rfl⟩
    rw [hgk]
    obtain ⟨d, hd⟩ : ∃ d, gk + 1 = d := ⟨_, rfl⟩
    rw [hd]
    obtain ⟨wx, hwx⟩ : ∃ wx, (((wd.alloc (.cells (madeCells #[.int .u8 0] 32) 5)).alloc (.cells (madeCells #[.int .u8 0] 32) 5)).alloc (.cells #[.slice (some ⟨gk, 0, none⟩) 32 32, .slice (some ⟨gv, 0, none⟩) 32 32, .int .i64 0] 54)) = wx := ⟨_, rfl⟩
    have hH : RNewI w wx d gk gv (zs 32) := by
      have h2 := two_zeros wd 32 (by decide)
      obtain ⟨h21, h22, _⟩ := h2
      have hOld : Old w wx := by rw [← hwx]; exact ((hOd.alloc _).alloc _).alloc _
      have hb3 := Old.alloc (Old.refl ((wd.alloc (.cells (madeCells #[.int .u8 0] 32) 5)).alloc (.cells (madeCells #[.int .u8 0] 32) 5))) (.cells #[.slice (some ⟨gk, 0, none⟩) 32 32, .slice (some ⟨gv, 0, none⟩) 32 32, .int .i64 0] 54)
      have k1 := h21.below hb3
      have k2 := h22.below hb3
      rw [hwx] at k1 k2
      have hbx : Blk wx d 54 #[.slice (some ⟨gk, 0, none⟩) 32 32, .slice (some ⟨gv, 0, none⟩) 32 32, .int .i64 0] := by
        rw [← hwx, show d = wd.heap.size + 1 + 1 from by rw [← hd, ← hgk, ← hgv]]
        have h := Blk.new ((wd.alloc (.cells (madeCells #[.int .u8 0] 32) 5)).alloc (.cells (madeCells #[.int .u8 0] 32) 5)) 54 #[.slice (some ⟨gk, 0, none⟩) 32 32, .slice (some ⟨gv, 0, none⟩) 32 32, .int .i64 0]
        simpa using h
      have hs := hOd.size
      rw [hgv] at hs
      rw [hgv] at k1 k2
      rw [hgk] at k2
      exact ⟨hbx, k2.mono hs, k1.mono hs, hOld, by omega, by omega⟩
    try rw [hwx]
    have HH := Lib.hid hH
    clear hwx hgk hgv hd hHeld hOd hH
    go_wp2_with fail
    go_loopw [4] (fun v wr => ∃ (k : Nat) (l : List UInt8), k ≤ 32 ∧ v = .int .i64 (k : Int) ∧ RNewI w wr d gk gv l ∧ l.length = 32 ∧ l.take k = List.replicate k 1) (fun v _ => 32 - (intOf v).toNat)
    case atStart => exact ⟨0, zs 32, by omega, rfl, HH.out, zs_len 32, rfl⟩
    case round =>
      obtain ⟨k, l, hk, rfl, hI, hl, ht⟩ := hrel
      by_cases hlt : k < 32
      · have hlti : (k : Int) < 32 := by omega
        have hltd : decide ((k : Int) < 32) = true := decide_eq_true hlti
        have q1 := hI.bl.cell 1
        simp at q1
        have f0 := hI.ov.frozen k
        obtain ⟨x, hx⟩ : ∃ x, l[k]? = some x := ⟨_, List.getElem?_eq_getElem (by omega)⟩
        have v0 := hI.ov.cell k x hx
        have HI := Lib.hid (And.intro hI (And.intro hl ht))
        clear hI hl ht hk hx
        go_wp2_with fail
        go_roundw
        case measure => simp [intOf]; omega
        refine ⟨k + 1, l.set k 1, by omega, by simp, HI.out.1.set k (by have := HI.out.2.1; omega), by rw [List.length_set]; exact HI.out.2.1, ?_⟩
        rw [List.replicate_succ', ← HI.out.2.2]
        have hkl : k < l.length := by have := HI.out.2.1; omega
        rw [List.take_add_one, List.take_set_of_le (by omega)]
        simp [hkl]
      · obtain rfl : k = 32 := by omega
        have hlti : ¬ ((32 : Nat) : Int) < 32 := by omega
        have hltd : decide (((32 : Nat) : Int) < 32) = false := decide_eq_false hlti
        have hl32 : l = List.replicate 32 1 := by rw [← ht, List.take_of_length_le (by omega)]
        subst hl32
        have hup := rupdate_any d ⟨zs 32, List.replicate 32 1⟩ 0 A3 m3 c3 ent wr ⟨_, _, _, _, hI.bl, hI.ok.rd, hI.ov.rd⟩ (H.out.1.below hI.O) H.out.2
        have HI := Lib.hid hI
        clear hI hl ht hk
        go_wp2_with fail
        refine hup.mono ?_
        rintro e w5 ⟨rfl, hD5, hT5⟩
        have H5 := Lib.hid (And.intro hD5 (below_turn HI.out.O hT5 (by simp; exact HI.out.ld) HI.out.O.size))
        clear hup hD5 hT5
        go_wp2_with fail
        go_ret
        exact ⟨d, rfl, H5.out.1, HI.out.ld, H5.out.2⟩
end Go.Proofs.YtdgjjmaiibafhaaDoor
