/-
  Pad: why there is no encoding by PSS.
  A drawn region whose last operation stores over what the others load: the word is asked of all operations but the last.
  Pad: PSS is made.
-/
import Derived.Test.YtddemlajfbagdaaDoorZzPd4
import Derived.Test.YtddemlajfbagdaaDoorZzRot
import Derived.Test.YtddemlajfbagdaaDoorPd7
namespace Go.Proofs.YtddemlajfbagdaaDoor
set_option maxRecDepth 100000
open Go.RowKit

/-- The encoding's length, and the error. -/
def pssF (kind bits : Int) (hl salt : Nat) : Int × Int :=
  if hsize kind = 0 ∨ (hl : Int) ≠ hsize kind ∨ bits < 1 ∨ 65536 < bits then (0, 7) else if (bits + 7) / 8 < hsize kind + salt + 2 then (0, 33) else ((bits + 7) / 8, 0)
set_option maxHeartbeats 4000000 in
theorem pss_any (kind bits : Int) (A : Option Addr) (m c : Nat) (salt : Nat) (w : World) (hs : salt ≤ 100000) :
    Calls Tryd.prog 43 #[.int .i64 kind, .int .i64 bits, .slice A m c, .int .i64 (salt : Int)] w fun e w' => e = .returned (.tuple #[.int .i64 (pssF kind bits m salt).1, .int .i64 (pssF kind bits m salt).2]) ∧ w = w' := by
  obtain ⟨h, hh⟩ : ∃ h, hsize kind = h := ⟨_, rfl⟩
  have hsz := size_any kind w
  have h64 := hsize_64 kind
  unfold pssF
  rw [hh] at hsz h64 ⊢
  have HS := Lib.hid hsz
  clear hsz
  by_cases c1 : h = 0
  · rw [if_pos (.inl c1)]
    subst c1
    clear h64 hh
    go_enter Tryd.func43, Tryd.ntmps43
    go_wp2_with fail
    refine HS.out.mono ?_
    rintro e w' ⟨rfl, rfl⟩
    go_wp2_with fail
    refine bodyPost_ret (results_tmp2 rfl _ _ _) rfl ?_
    exact ⟨rfl, rfl⟩
  · have b1 : (h == 0) = false := by simpa using c1
    by_cases c2 : (m : Int) = h
    · have b2 : ((m : Int) != h) = false := by simpa using c2
      by_cases c3 : bits < 1
      · rw [if_pos (.inr (.inr (.inl c3)))]
        have b3 : decide (bits < 1) = true := decide_eq_true c3
        clear h64 hh
        go_enter Tryd.func43, Tryd.ntmps43
        go_wp2_with fail
        refine HS.out.mono ?_
        rintro e w' ⟨rfl, rfl⟩
        go_wp2_with fail
        refine bodyPost_ret (results_tmp2 rfl _ _ _) rfl ?_
        exact ⟨rfl, rfl⟩
      · have b3 : decide (bits < 1) = false := decide_eq_false c3
        by_cases c4 : 65536 < bits
        · rw [if_pos (.inr (.inr (.inr c4)))]
          have c4i : bits > 65536 := c4
          have b4 : decide (bits > 65536) = true := decide_eq_true c4i
          clear h64 hh
          go_enter Tryd.func43, Tryd.ntmps43
          go_wp2_with fail
          refine HS.out.mono ?_
          rintro e w' ⟨rfl, rfl⟩
          go_wp2_with fail
          refine bodyPost_ret (results_tmp2 rfl _ _ _) rfl ?_
          exact ⟨rfl, rfl⟩
        · rw [if_neg (fun h => h.elim c1 (fun h => h.elim (fun h => h c2) (fun h => h.elim c3 c4)))]
          have c4i : ¬ bits > 65536 := c4
          have b4 : decide (bits > 65536) = false := decide_eq_false c4i
          obtain ⟨b7, hb7⟩ : ∃ x, bits + 7 = x := ⟨_, rfl⟩
          have hb7w : IntKind.i64.wrap b7 = b7 := IntWalk.i64_in _ (by omega)
          obtain ⟨n, hn⟩ : ∃ n, b7 / 8 = n := ⟨_, rfl⟩
          have hnt : Int.tdiv b7 8 = n := by rw [Int.tdiv_eq_ediv_of_nonneg (by omega)]; exact hn
          have hnw : IntKind.i64.wrap n = n := IntWalk.i64_in _ (by omega)
          obtain ⟨q, hq⟩ : ∃ q, h + (salt : Int) = q := ⟨_, rfl⟩
          have hqw : IntKind.i64.wrap q = q := IntWalk.i64_in _ (by omega)
          obtain ⟨q2, hq2⟩ : ∃ q2, q + 2 = q2 := ⟨_, rfl⟩
          have hq2w : IntKind.i64.wrap q2 = q2 := IntWalk.i64_in _ (by omega)
          rw [hb7, hn, hq, hq2]
          by_cases c5 : n < q2
          · rw [if_pos c5]
            have b5 : decide (n < q2) = true := decide_eq_true c5
            clear h64 hh
            go_enter Tryd.func43, Tryd.ntmps43
            go_wp2_with fail
            refine HS.out.mono ?_
            rintro e w' ⟨rfl, rfl⟩
            go_wp2_with fail
            refine bodyPost_ret (results_tmp2 rfl _ _ _) rfl ?_
            exact ⟨rfl, rfl⟩
          · rw [if_neg c5]
            have b5 : decide (n < q2) = false := decide_eq_false c5
            clear h64 hh
            go_enter Tryd.func43, Tryd.ntmps43
            go_wp2_with fail
            refine HS.out.mono ?_
            rintro e w' ⟨rfl, rfl⟩
            go_wp2_with fail
            refine bodyPost_ret (results_tmp2 rfl _ _ _) rfl ?_
            exact ⟨rfl, rfl⟩
    · rw [if_pos (.inr (.inl c2))]
      have b2 : ((m : Int) != h) = true := by simpa using c2
      clear h64 hh
      go_enter Tryd.func43, Tryd.ntmps43
      go_wp2_with fail
      refine HS.out.mono ?_
      rintro e w' ⟨rfl, rfl⟩
      go_wp2_with fail
      refine bodyPost_ret (results_tmp2 rfl _ _ _) rfl ?_
      exact ⟨rfl, rfl⟩
end Go.Proofs.YtddemlajfbagdaaDoor
namespace Go.Proofs.YtddemlajfbagdaaDoor
open Go.RowKit

section
variable {P : Program} {ops : Array Oper} {Q : Exit → Act → World → Prop} {md : Region.Mode} {S : World → Prop}
/-- Whatever order is picked, S holds behind every operation but number z. -/
def wpAnyT (P : Program) (md : Region.Mode) (ops : Array Oper) (Q : Exit → Act → World → Prop) (S : World → Prop) (z : Nat) : Nat → Array Bool → Act → World → Prop
  | 0, listed, a, w => Region.ready md ops listed = [] ∧ Q .normal a w
  | fuel + 1, listed, a, w =>
    (Region.ready md ops listed = [] → Q .normal a w) ∧
    ∀ i ∈ Region.ready md ops listed, wpOp P ops Q i (fun a' w' => (i ≠ z → S w') ∧ wpAnyT P md ops Q S z fuel (listed.setIfInBounds i true) a' w') a w
theorem wpAny_of_T {z : Nat} : ∀ (fuel : Nat) (listed : Array Bool) (a : Act) (w : World), wpAnyT P md ops Q S z fuel listed a w → wpAny P md ops Q fuel listed a w
  | 0, _, _, _, h => h
  | fuel + 1, _, _, _, h => ⟨h.1, fun i hi => wpOp_mono (fun a' w' h' => wpAny_of_T fuel _ a' w' h'.2) (h.2 i hi)⟩
/-- Number z waits for number i. -/
def waitsOn (md : Region.Mode) (ops : Array Oper) (z i : Nat) : Bool := match ops[z]? with
  | some o => o.after.toList.any fun e => Region.binds md e && (e.on == i)
  | none => true
theorem waitsOn_spec {z i : Nat} (h : waitsOn md ops z i = true) {oz : Oper} (hz : ops[z]? = some oz) : ∃ e ∈ oz.after, Region.binds md e = true ∧ e.on = i := by
  unfold waitsOn at h
  rw [hz] at h
  simp only [List.any_eq_true, Bool.and_eq_true, beq_iff_eq] at h
  obtain ⟨e, he, h1, h2⟩ := h
  exact ⟨e, by simpa using he, h1, h2⟩
theorem wpAnyT_first {z i : Nat} {oi : Oper} {v : Value} (hz : waitsOn md ops z i = true) (hi : ops[i]? = some oi) (hsel : ∀ (j : Nat) (o : Oper) cs b, ops[j]? = some o → o.op ≠ .select cs b)
    (hQ : ∀ c a w, Q (.panic c) (a.put oi.dst v) w → Q (.panic c) a w) :
    ∀ (fuel : Nat) (listed : Array Bool) (a : Act) (w : World),
      (∀ j oj, ops[j]? = some oj → j ≠ i → listed.getD j true = false → (∀ e ∈ oj.after, Region.binds md e = true → e.on ≠ i) → oi.apart ops oj = true) →
      i ∈ Region.ready md ops listed → YieldsIf P ops S oi v a → S w →
      wpAnyT P md ops Q S z fuel (listed.setIfInBounds i true) (a.put oi.dst v) w → wpAnyT P md ops Q S z (fuel + 1) listed a w := by
  intro fuel
  induction fuel with
  | zero =>
    intro listed a w _ hr hy hS H
    refine ⟨fun h => (by rw [h] at hr; cases hr), fun j hj => ?_⟩
    by_cases hji : j = i
    · subst hji; exact hy.wpOp hi hS ⟨fun _ => hS, H⟩
    · have := ready_mono hj hji
      rw [H.1] at this
      cases this
  | succ fuel ih =>
    intro listed a w hfree hr hy hS H
    refine ⟨fun h => (by rw [h] at hr; cases hr), fun j hj => ?_⟩
    by_cases hji : j = i
    · subst hji; exact hy.wpOp hi hS ⟨fun _ => hS, H⟩
    · have h1 := H.2 j (ready_mono hj hji)
      obtain ⟨hjun, oj, hoj, hall⟩ := mem_ready.1 hj
      have hnot : ∀ e ∈ oj.after, Region.binds md e = true → e.on ≠ i := fun e he hb heq => by
        have h1 := hall e he hb
        have h0 := (mem_ready.1 hr).1
        rw [heq] at h1
        rcases Nat.lt_or_ge i listed.size with h' | h'
        · simp [h'] at h0 h1; rw [h0] at h1; cases h1
        · simp [Array.getElem?_eq_none h'] at h1
      have hjz : j ≠ z := fun e => by
        subst e
        obtain ⟨e, he, hb, hon⟩ := waitsOn_spec hz hoj
        exact hnot e he hb hon
      have h2 := wpOp_putIf hoj (hfree j oj hoj hji hjun hnot) (fun cs b => hsel i oi cs b hi) (fun cs b => hsel j oj cs b hoj) hQ hy h1
      have hfree' : ∀ k ok, ops[k]? = some ok → k ≠ i → (listed.setIfInBounds j true).getD k true = false →
          (∀ e ∈ ok.after, Region.binds md e = true → e.on ≠ i) → oi.apart ops ok = true := fun k ok hk hki hun hno => by
        refine hfree k ok hk hki ?_ hno
        by_cases hjk : j = k
        · subst hjk; exact hjun
        · rw [getD_set_ne true hjk] at hun; exact hun
      refine wpOp_mono (fun a' w' h3 => ⟨h3.2.1, ih (listed.setIfInBounds j true) a' w' hfree' (ready_mono hr (Ne.symm hji)) h3.1 (h3.2.1 hjz) ?_⟩) h2
      rw [Array.setIfInBounds_comm _ _ hji]
      exact h3.2.2
theorem takeZ {z i : Nat} {oi : Oper} {v : Value} {fuel : Nat} {listed : Array Bool} {a : Act} {w : World} (hz : waitsOn md ops z i = true) (hi : ops.toList[i]? = some oi)
    (hs : Region.noSelect ops = true) (hf : Region.free md ops listed i = true) (hr : (Region.ready md ops listed).contains i = true)
    (hQ : ∀ c a w, Q (.panic c) (a.put oi.dst v) w → Q (.panic c) a w) (hy : YieldsIf P ops S oi v a) (hS : S w)
    (h : wpAnyT P md ops Q S z fuel (listed.setIfInBounds i true) (a.put oi.dst v) w) : wpAnyT P md ops Q S z (fuel + 1) listed a w :=
  wpAnyT_first hz (by simpa using hi) (Region.noSelect_spec hs) hQ fuel listed a w (Region.free_spec (by simpa using hi) hf) (by simpa using hr) hy hS h
def AllReadyT (P : Program) (md : Region.Mode) (ops : Array Oper) (Q : Exit → Act → World → Prop) (S : World → Prop) (z : Nat) (fuel : Nat) (listed : Array Bool) (a : Act) (w : World) (rs : List Nat) : Prop :=
  ∀ i ∈ rs, wpOp P ops Q i (fun a' w' => (i ≠ z → S w') ∧ wpAnyT P md ops Q S z fuel (listed.setIfInBounds i true) a' w') a w
theorem AllReadyT.nil {z fuel : Nat} {listed : Array Bool} {a : Act} {w : World} : AllReadyT P md ops Q S z fuel listed a w [] := fun _ h => by cases h
theorem wpAnyT_ready {z : Nat} {rs : List Nat} {fuel : Nat} {listed : Array Bool} {a : Act} {w : World} (hr : Region.ready md ops listed = rs) (hne : rs ≠ [])
    (h : AllReadyT P md ops Q S z fuel listed a w rs) : wpAnyT P md ops Q S z (fuel + 1) listed a w := ⟨fun h0 => absurd (hr ▸ h0) hne, hr ▸ h⟩
theorem consZ {z fuel : Nat} {listed : Array Bool} {a : Act} {w : World} {i : Nat} {o : Oper} {rs : List Nat} (ho : ops.toList[i]? = some o)
    (h : ∀ K' : Act → World → Prop, Shut (∀ a w, S w → (S w → wpAnyT P md ops Q S z fuel (listed.setIfInBounds i true) a w) → K' a w) → if Region.wanted o (yielded ops a.tmps) = true then Oper.wp P o a w K' Q else K' (a.put o.dst undef) w)
    (hs : AllReadyT P md ops Q S z fuel listed a w rs) : AllReadyT P md ops Q S z fuel listed a w (i :: rs) := fun j hj => by
  rcases List.mem_cons.1 hj with rfl | hj
  · exact wpOp_step (by simpa using ho) (fun K' hK => h K' (fun a w hS hW => hK a w ⟨fun _ => hS, hW hS⟩))
  · exact hs j hj
/-- The last one: S is not asked behind it. -/
theorem consZl {z fuel : Nat} {listed : Array Bool} {a : Act} {w : World} {o : Oper} {rs : List Nat} (ho : ops.toList[z]? = some o)
    (h : ∀ K' : Act → World → Prop, Shut (∀ a w, wpAnyT P md ops Q S z fuel (listed.setIfInBounds z true) a w → K' a w) → if Region.wanted o (yielded ops a.tmps) = true then Oper.wp P o a w K' Q else K' (a.put o.dst undef) w)
    (hs : AllReadyT P md ops Q S z fuel listed a w rs) : AllReadyT P md ops Q S z fuel listed a w (z :: rs) := fun j hj => by
  rcases List.mem_cons.1 hj with rfl | hj
  · exact wpOp_step (by simpa using ho) (fun K' hK => h K' (fun a w hW => hK a w ⟨fun hn => absurd rfl hn, hW⟩))
  · exact hs j hj
theorem wpAnyT_done {z : Nat} {listed : Array Bool} {a : Act} {w : World} (hr : Region.ready md ops listed = []) (h : Q .normal a w) :
    ∀ fuel, wpAnyT P md ops Q S z fuel listed a w
  | 0 => ⟨hr, h⟩
  | _ + 1 => ⟨fun _ => h, by rw [hr]; simp⟩
theorem wpAnyT_mono {z : Nat} {S' : World → Prop} (h : ∀ w, S' w → S w) :
    ∀ (fuel : Nat) (listed : Array Bool) (a : Act) (w : World), wpAnyT P md ops Q S' z fuel listed a w → wpAnyT P md ops Q S z fuel listed a w
  | 0, _, _, _, hw => hw
  | fuel + 1, _, _, _, hw => ⟨hw.1, fun i hi => wpOp_mono (fun a' w' h' => ⟨fun hn => h w' (h'.1 hn), wpAnyT_mono h fuel _ a' w' h'.2⟩) (hw.2 i hi)⟩
end
theorem wpAnyT_old {P : Program} {md : Region.Mode} {ops : Array Oper} {Q : Exit → Act → World → Prop} {z : Nat} {w0 w1 : World} (h01 : Old w0 w1) {fuel : Nat} {listed : Array Bool} {a : Act} {w : World}
    (h : Old w1 w → wpAnyT P md ops Q (Old w1) z fuel listed a w) (hw : Old w1 w) : wpAnyT P md ops Q (Old w0) z fuel listed a w :=
  wpAnyT_mono (fun _ h' => h01.trans h') _ _ _ _ (h hw)
theorem region_oldZ {P : Program} {ops : Array Oper} {Q : Exit → Act → World → Prop} {id : Nat} {a : Act} {w : World} (z : Nat) (hm : P.follows .mixedOrders = true)
    (h : ∀ wd, Old w wd → w.heap.size = wd.heap.size → wpAnyT P .any ops (NoPanic Q) (Old w) z ops.size (Array.replicate ops.size false) a wd) : (Code.region id ops true).wp P Q a w :=
  wp_region_noPanic (wp_region_any hm (wpAny_of_T _ _ _ _ (h w.drew (Old.drew (Old.refl w)) rfl)))
end Go.Proofs.YtddemlajfbagdaaDoor
namespace Go.Proofs.YtddemlajfbagdaaDoor
set_option maxRecDepth 100000
open Go.RowKit

theorem rd_three {w : World} {g : Nat} {A A' A2 : Option Addr} {m c m' c' m2 c2 : Nat} {l l' l2 : List UInt8} {t : TypeId} (hb : Blk w g t #[.slice A m c, .slice A' m' c', .slice A2 m2 c2]) (hr : Rd w A m c l) (hr' : Rd w A' m' c' l') (hr2 : Rd w A2 m2 c2 l2) :
    PartsAt w (some ⟨g, 0, none⟩) 3 3 [l, l', l2] := by
  refine ⟨rfl, Nat.le_refl _, by decide, fun _ => ⟨g, 0, rfl, hb.lt, fun i x hi => ?_⟩⟩
  match i, hi with
  | 0, hi => simp at hi; subst hi; exact ⟨A, m, c, by have := hb.cell 0; simpa using this, hr⟩
  | 1, hi => simp at hi; subst hi; exact ⟨A', m', c', by have := hb.cell 1; simpa using this, hr'⟩
  | 2, hi => simp at hi; subst hi; exact ⟨A2, m2, c2, by have := hb.cell 2; simpa using this, hr2⟩
  | k + 3, hi => simp at hi
def encPF (kind bits : Int) (hash salt : List UInt8) : List UInt8 × Int :=
  if (pssF kind bits hash.length salt.length).2 = 0 then (encP (hsize kind).toNat (rof kind) (mask kind) bits.toNat (pssF kind bits hash.length salt.length).1.toNat hash salt, 0) else ([], (pssF kind bits hash.length salt.length).2)
theorem pssF_ok (kind bits : Int) (hl salt : Nat) (h : (pssF kind bits hl salt).2 = 0) : ∃ N n b : Nat, hsize kind = (N : Int) ∧ 1 ≤ N ∧ N ≤ 64 ∧ hl = N ∧ bits = (b : Int) ∧ 1 ≤ b ∧ b ≤ 65536 ∧ pssF kind bits hl salt = ((n : Int), 0) ∧ N + salt + 2 ≤ n ∧ b ≤ 8 * n ∧ 8 * n < b + 8 := by
  have h64 := hsize_64 kind
  unfold pssF at h ⊢
  by_cases c : hsize kind = 0 ∨ (hl : Int) ≠ hsize kind ∨ bits < 1 ∨ 65536 < bits
  · rw [if_pos c] at h; cases h
  · rw [if_neg c] at h ⊢
    by_cases c2 : (bits + 7) / 8 < hsize kind + salt + 2
    · rw [if_pos c2] at h; cases h
    · rw [if_neg c2]
      refine ⟨(hsize kind).toNat, ((bits + 7) / 8).toNat, bits.toNat, by omega, by omega, by omega, by omega, by omega, by omega, by omega, ?_, by omega, by omega, by omega⟩
      rw [Int.toNat_of_nonneg (by omega)]
theorem shr_top (b n t : Nat) (T : TypeId) (ht : 8 * n - b = t) (h8 : t < 8) : binOp .shr T (.int .u8 255) (.int .i64 (t : Int)) = pure (B (topB b n)) := by
  have h := shr_B T 255 .i64 t h8
  rw [show (B 255 : Value) = .int .u8 255 from rfl] at h
  rw [h]
  congr 2
  unfold topB
  rw [ht]
  have hcase : t = 0 ∨ t = 1 ∨ t = 2 ∨ t = 3 ∨ t = 4 ∨ t = 5 ∨ t = 6 ∨ t = 7 := by omega
  rcases hcase with rfl | rfl | rfl | rfl | rfl | rfl | rfl | rfl <;> rfl
set_option maxHeartbeats 16000000 in
theorem encp_any (kind bits : Int) (A1 A2 : Option Addr) (m1 c1 m2 c2 : Nat) (hash salt : List UInt8) (w : World) (h1 : Rd w A1 m1 c1 hash) (h2 : Rd w A2 m2 c2 salt) (hK : KAt w) (hb : bits ≤ 1500 ∨ 65536 < bits) (hm2 : m2 ≤ 1000) :
    Calls Tryd.prog 20 #[.int .i64 kind, .int .i64 bits, .slice A1 m1 c1, .slice A2 m2 c2] w (PRes w (encPF kind bits hash salt)) := by
  have hl1 := h1.1
  have hl2 := h2.1
  have hps := pss_any kind bits A1 m1 c1 m2 w (by omega)
  unfold encPF
  rw [← hl1, ← hl2]
  by_cases d1 : (pssF kind bits m1 m2).2 = 0
  · rw [if_pos d1]
    obtain ⟨N, n, b, hN, hN1, hN64, hm1, rfl, hB1, hB2, hp, hn, hb8, hb9⟩ := pssF_ok kind bits m1 m2 d1
    rw [hp] at hps ⊢
    rw [hN, Int.toNat_natCast, Int.toNat_natCast, Int.toNat_natCast]
    have hn188 : n ≤ 188 := by omega
    have hki := hsize_in kind (by omega)
    obtain ⟨w1, hw1⟩ : ∃ w1, w.alloc (.cells (madeCells #[.int .u8 0] 8) 5) = w1 := ⟨_, rfl⟩
    have ho1 : Own w1 w.heap.size (.slice (some ⟨w.heap.size, 0, none⟩) 8 8) (zs 8) := by rw [← hw1]; exact Own.made w 8 (by decide)
    have hO1 : Old w w1 := by rw [← hw1]; exact (Old.refl w).alloc _
    obtain ⟨w2, hw2⟩ : ∃ w2, w1.alloc (.cells #[.slice (some ⟨w.heap.size, 0, none⟩) 8 8, .slice A1 m1 c1, .slice A2 m2 c2] 22) = w2 := ⟨_, rfl⟩
    have hO2' : Old w1 w2 := by rw [← hw2]; exact (Old.refl w1).alloc _
    have hO2 : Old w w2 := Old.trans hO1 hO2'
    have hP := of_res_all kind (some ⟨w1.heap.size, 0, none⟩) 3 3 [zs 8, hash, salt] w2 (rd_three (by rw [← hw2]; exact Blk.new _ _ _) (ho1.rd.below hO2') (h1.below hO2) (h2.below hO2)) (by simp [zs_len]; omega) (hK.below hO2)
    obtain ⟨HV, hHV⟩ : ∃ H, pssH (rof kind) hash salt = H := ⟨_, rfl⟩
    rw [show [zs 8, hash, salt].flatten = List.replicate 8 0 ++ hash ++ salt by simp [zs], show rof kind (List.replicate 8 0 ++ hash ++ salt) = HV from hHV] at hP
    have hHl : HV.length = N := by rw [← hHV]; unfold pssH; rw [rof_len kind hki _ (by simp; omega), hN]; rfl
    obtain ⟨a1, ha1⟩ : ∃ a, (n : Int) - (N : Int) = a := ⟨_, rfl⟩
    have ha1w : IntKind.i64.wrap a1 = a1 := IntWalk.i64_in _ (by omega)
    obtain ⟨a2, ha2⟩ : ∃ a, a1 - 2 = a := ⟨_, rfl⟩
    have ha2w : IntKind.i64.wrap a2 = a2 := IntWalk.i64_in _ (by omega)
    obtain ⟨k, hk⟩ := Int.eq_ofNat_of_zero_le (show 0 ≤ a2 - (m2 : Int) by omega)
    have hkw : IntKind.i64.wrap (k : Int) = (k : Int) := IntWalk.i64_in _ (by omega)
    obtain ⟨e8, he8⟩ : ∃ a, 8 * (n : Int) = a := ⟨_, rfl⟩
    have he8w : IntKind.i64.wrap e8 = e8 := IntWalk.i64_in _ (by omega)
    obtain ⟨t, ht⟩ := Int.eq_ofNat_of_zero_le (show 0 ≤ e8 - (b : Int) by omega)
    have htw : IntKind.i64.wrap (t : Int) = (t : Int) := IntWalk.i64_in _ (by omega)
    have hshr := fun T => shr_top b n t T (by omega) (by omega)
    obtain ⟨tp, htp⟩ : ∃ t, topB b n = t := ⟨_, rfl⟩
    rw [htp] at hshr
    have hmk8 : ∀ w : World, (Instr.makeSlice 22 (.int .i64 8) (.int .i64 8)).run Tryd.prog w = .ok (.slice (some ⟨w.heap.size, 0, none⟩) 8 8) (w.alloc (.cells (madeCells #[.int .u8 0] 8) 5)) := Tryd.prog_make 8 (by omega)
    have hmkk : ∀ w : World, (Instr.makeSlice 22 (.int .i64 (k : Int)) (.int .i64 (k : Int))).run Tryd.prog w = .ok (.slice (some ⟨w.heap.size, 0, none⟩) k k) (w.alloc (.cells (madeCells #[.int .u8 0] k) 5)) := Tryd.prog_make k (by omega)
    have hkN : k = n - N - 2 - salt.length := by omega
    have hall : N + k + m2 + 2 = n := by omega
    have hpm := fun A3 c3 A4 n4 c4 W (l : List UInt8) (hr3 : Rd W A3 N c3 HV) (hr4 : Rd W A4 n4 c4 l) (h1 : 1 ≤ n4) (h2 : n4 ≤ 200) (hK : KAt W) => pmask_any kind hki A3 A4 N c3 n4 c4 HV l W hr3 hr4 (by omega) (by omega) h1 hK
    have hml := fun j => mask_len kind hki HV (by omega) j
    have hT : encP N (rof kind) (mask kind) b n hash salt = headAnd (xorB ((zs k ++ [1]) ++ salt) (mask kind HV (k + 1 + m2))) tp ++ HV ++ [188] := by
      unfold encP
      rw [hHV, htp]
      have hdb : pssDb N n salt = (zs k ++ [1]) ++ salt := by unfold pssDb zs; rw [← hkN]; simp
      rw [hdb]
      have hdl : ((zs k ++ [1]) ++ salt).length = k + 1 + m2 := by simp only [List.length_append, zs_len, List.length_singleton]; omega
      rw [hdl]
    rw [hT]
    have HS := Lib.hid (And.intro hps (And.intro hP (And.intro h2 (And.intro hK (And.intro hO2 (And.intro hpm hml))))))
    have HA := Lib.hid (And.intro hall (And.intro hn188 (And.intro hl2 (And.intro hHl (And.intro hN1 hN64)))))
    clear hps hP h1 h2 hK hHl hO1 hO2 hO2' ho1 hN hki hN1 hN64 hm1 hB1 hB2 hp hn hb8 hb9 hn188 hl1 hl2 hb hm2 d1 hHV hT hpm hml hall hkN htp
    go_enter Tryd.func20, Tryd.ntmps20
    go_wp2_with fail
    refine HS.out.1.mono ?_
    rintro e w' ⟨rfl, rfl⟩
    go_wp2_with fail
    refine HS.out.2.1.mono ?_
    rintro e w3 ⟨A3, n3, c3, rfl, hR3, hB3⟩
    have hn3 := hR3.len
    rw [HA.out.2.2.2.1] at hn3
    subst hn3
    have hz3 : w.heap.size ≤ w2.heap.size := HS.out.2.2.2.2.1.size
    obtain ⟨w4, hw4⟩ : ∃ w4, w3.alloc (.cells (madeCells #[.int .u8 0] k) 5) = w4 := ⟨_, rfl⟩
    have ho4 : Own w4 w3.heap.size (.slice (some ⟨w3.heap.size, 0, none⟩) k k) (zs k) := by rw [← hw4]; exact Own.made w3 k (by have := HA.out; unfold maxLen; omega)
    have hO34 : Old w3 w4 := by rw [← hw4]; exact (Old.refl w3).alloc _
    have hO3 : Old w w3 := Old.trans HS.out.2.2.2.2.1 hB3
    have H4 := Lib.hid (And.intro ho4 (And.intro hR3.rd (And.intro (show Old w3 w4 from hO34) (show Old w w3 from hO3))))
    clear hR3 hB3 hz3 ho4 hO34 hO3 hw1 hw2
    go_wp2_with (first | (at_builtin; refine wp_app_lit (.tmp 43) (.tmp 44) w3.heap.size _ _ H4.out.1 H4.out.2.2.1.size [1] (by have := HA.out; simp [zs_len]; omega) (by simp) rfl rfl rfl rfl rfl rfl ?_; intro A5 n5 c5 w5 hn5 hG5; have H5 := Lib.hid (And.intro hG5.own (show Old w3 w5 from Below.trans (H4.out.2.2.1.alloc _) hG5.below)); clear hG5) | (at_builtin; refine wp_app2 (.tmp 45) (.tmp 46) w3.heap.size (.slice A5 n5 c5) _ H5.out.1 H5.out.2.size A2 m2 c2 salt (HS.out.2.2.1.below (Old.trans H4.out.2.2.2 H5.out.2)) (by have := HA.out; simp [zs_len]; omega) rfl rfl rfl rfl ?_; intro A6 n6 c6 w6 hn6 hG6; have H6 := Lib.hid (And.intro hG6.own (show Old w3 w6 from Below.trans H5.out.2 hG6.below)); clear hG6))
    have hn6l := H6.out.1.len
    have hdl : ((zs k ++ [1]) ++ salt).length = k + 1 + m2 := by rw [List.length_append, List.length_append, zs_len, ← HA.out.2.2.1]; rfl
    rw [hdl] at hn6l
    clear hdl
    clear hn6
    subst hn6l
    have HK6 : Old w w6 := Old.trans H4.out.2.2.2 H6.out.2
    have HK := Lib.hid HK6
    clear HK6
    refine (HS.out.2.2.2.2.2.1 A3 c3 A6 _ c6 w6 _ (H4.out.2.1.below H6.out.2) H6.out.1.rd (by omega) (by have := HA.out; omega) (HS.out.2.2.2.1.below HK.out)).mono ?_
    obtain ⟨XL, hXL⟩ : ∃ X, xorB (zs k ++ [1] ++ salt) (mask kind HV (k + 1 + m2)) = X := ⟨_, rfl⟩
    rw [hXL]
    have hXl : XL.length = k + 1 + m2 := by
      rw [← hXL, xorB_len _ _ (by rw [HS.out.2.2.2.2.2.2, ← H6.out.1.len]; exact Nat.le_refl _), ← H6.out.1.len]
    rintro e w7 ⟨A7, n7, c7, rfl, hR7, hB7⟩
    have hn7 := hR7.len
    rw [hXl] at hn7
    cases XL with
    | nil => exact absurd hXl (by simp only [List.length_nil]; omega)
    | cons x0 xr =>
      clear hXl
      obtain ⟨g, cg, e1⟩ := hR7.form (by intro e; injection e with _ e2 _; omega)
      injection e1 with e1 e2 e3
      subst e1 e3
      clear e2
      have h0m : 0 < n7 := by omega
      have hrd7 := hR7.rd
      have yq := hR7.cell 0 x0 rfl
      have fq := hR7.frozen 0
      have hset := hR7.set_ 0 (x0 &&& tp) h0m
      have hgb := hR7.lt (g := g) rfl
      have hnn : n7 ≤ 200 := by have := HA.out; omega
      have H7 := Lib.hid (And.intro hR7 (And.intro (show Old w6 w7 from hB7) (And.intro hgb hnn)))
      clear hR7 hB7 hrd7 hset hgb hnn hn7
      go_wp2_with fail
      refine region_oldZ 10 (by kernel_rfl) (fun wd hHeld hSz => ?_)
      have HSz := Lib.hid hSz
      clear hSz
      have hOd := hHeld
      refine takeZ (z := 10) (by kernel_rfl) (i := 0) (v := ?_) rfl (by kernel_rfl) (by kernel_rfl) (by kernel_rfl) (fun _ _ _ h => h) (Or.inl ⟨by rfl, ?_⟩) hHeld ?_
      rotate_left
      focus (intro wq hSw; clear hSw; go_simp; try with_reducible rfl)
      try simp only [Act.put, List.setIfInBounds_toArray, List.set_cons_zero, List.set_cons_succ]
      refine takeZ (z := 10) (by kernel_rfl) (i := 1) (v := ?_) rfl (by kernel_rfl) (by kernel_rfl) (by kernel_rfl) (fun _ _ _ h => h) (Or.inl ⟨by rfl, ?_⟩) hHeld ?_
      rotate_left
      focus (intro wq hSw; clear hSw; go_simp; try with_reducible rfl)
      try simp only [Act.put, List.setIfInBounds_toArray, List.set_cons_zero, List.set_cons_succ]
      refine takeZ (z := 10) (by kernel_rfl) (i := 2) (v := ?_) rfl (by kernel_rfl) (by kernel_rfl) (by kernel_rfl) (fun _ _ _ h => h) (Or.inl ⟨by rfl, ?_⟩) hHeld ?_
      rotate_left
      focus (intro wq hSw; have hy := (H7.out.1.below hSw).cell 0 x0 rfl; clear hSw; go_simp; try with_reducible rfl)
      try simp only [Act.put, List.setIfInBounds_toArray, List.set_cons_zero, List.set_cons_succ]
      refine takeZ (z := 10) (by kernel_rfl) (i := 3) (v := ?_) rfl (by kernel_rfl) (by kernel_rfl) (by kernel_rfl) (fun _ _ _ h => h) (Or.inl ⟨by rfl, ?_⟩) hHeld ?_
      rotate_left
      focus (intro wq hSw; clear hSw; go_simp; try with_reducible rfl)
      try simp only [Act.put, List.setIfInBounds_toArray, List.set_cons_zero, List.set_cons_succ]
      refine takeZ (z := 10) (by kernel_rfl) (i := 4) (v := ?_) rfl (by kernel_rfl) (by kernel_rfl) (by kernel_rfl) (fun _ _ _ h => h) (Or.inl ⟨by rfl, ?_⟩) hHeld ?_
      rotate_left
      focus (intro wq hSw; clear hSw; go_simp; try with_reducible rfl)
      try simp only [Act.put, List.setIfInBounds_toArray, List.set_cons_zero, List.set_cons_succ]
      refine takeZ (z := 10) (by kernel_rfl) (i := 5) (v := ?_) rfl (by kernel_rfl) (by kernel_rfl) (by kernel_rfl) (fun _ _ _ h => h) (Or.inl ⟨by rfl, ?_⟩) hHeld ?_
      rotate_left
      focus (intro wq hSw; clear hSw; go_simp; try with_reducible rfl)
      try simp only [Act.put, List.setIfInBounds_toArray, List.set_cons_zero, List.set_cons_succ]
      refine takeZ (z := 10) (by kernel_rfl) (i := 6) (v := ?_) rfl (by kernel_rfl) (by kernel_rfl) (by kernel_rfl) (fun _ _ _ h => h) (Or.inl ⟨by rfl, ?_⟩) hHeld ?_
      rotate_left
      focus (intro wq hSw; clear hSw; go_simp; try with_reducible rfl)
      try simp only [Act.put, List.setIfInBounds_toArray, List.set_cons_zero, List.set_cons_succ]
      refine takeZ (z := 10) (by kernel_rfl) (i := 7) (v := ?_) rfl (by kernel_rfl) (by kernel_rfl) (by kernel_rfl) (fun _ _ _ h => h) (Or.inl ⟨by rfl, ?_⟩) hHeld ?_
      rotate_left
      focus (intro wq hSw; clear hSw; go_simp; try with_reducible rfl)
      try simp only [Act.put, List.setIfInBounds_toArray, List.set_cons_zero, List.set_cons_succ]
      refine takeZ (z := 10) (by kernel_rfl) (i := 8) (v := ?_) rfl (by kernel_rfl) (by kernel_rfl) (by kernel_rfl) (fun _ _ _ h => h) (Or.inl ⟨by rfl, ?_⟩) hHeld ?_
      rotate_left
      focus (intro wq hSw; clear hSw; go_simp; try with_reducible rfl)
      try simp only [Act.put, List.setIfInBounds_toArray, List.set_cons_zero, List.set_cons_succ]
      refine takeZ (z := 10) (by kernel_rfl) (i := 9) (v := ?_) rfl (by kernel_rfl) (by kernel_rfl) (by kernel_rfl) (fun _ _ _ h => h) (Or.inl ⟨by rfl, ?_⟩) hHeld ?_
      rotate_left
      focus (intro wq hSw; clear hSw; go_simp; try with_reducible rfl)
      try simp only [Act.put, List.setIfInBounds_toArray, List.set_cons_zero, List.set_cons_succ]
      refine wpAnyT_ready (rs := [10]) (by kernel_rfl) (by simp) ?_
      refine consZl rfl (fun K hK => ?_) AllReadyT.nil
      have hy := (H7.out.1.below hOd).frozen 0
      have hy0 := (H7.out.1.below hOd).cell 0 x0 rfl
      go_simp
      refine hK.out _ _ ?_
      clear hK K
      try simp only [Act.put, List.setIfInBounds_toArray, List.set_cons_zero, List.set_cons_succ]
      refine wpAnyT_done (by kernel_rfl) ?_ _
      refine NoPanic.normal ?_
      try simp only [Exit.then]
      have HX := H7.out.2.1
      have ho8 := (H7.out.1.below hOd).set_ 0 (x0 &&& tp) h0m
      have hT8 := ((Turn.refl [g] wd).setCell (p := ⟨g, 0, none⟩) (.inl (by simp)) (B (x0 &&& tp)))
      obtain ⟨w8, hw8⟩ : ∃ w8, wd.setCell ⟨g, 0, none⟩ (B (x0 &&& tp)) = w8 := ⟨_, rfl⟩
      rw [hw8] at ho8 hT8
      have hO8 : Old w6 w8 := below_turn (Old.trans HX hOd) hT8 (fun x hx => by simp at hx; rw [hx]; exact H7.out.2.2.1.1) (Old.trans HX hOd).size
      have H8 := Lib.hid (And.intro (show Own w8 w6.heap.size (.slice (some ⟨g, 0, none⟩) n7 c7) ((x0 &&& tp) :: xr) from ho8) (And.intro hO8 (Rd.below H4.out.2.1 (Old.trans H6.out.2 hO8))))
      clear ho8 hT8 hO8 HX hHeld hOd HSz yq fq hy hy0
      try simp only [Exit.then]
      rw [hw8]
      clear hw8
      go_wp2_with (first | (at_builtin; refine wp_app2 (.tmp 59) (.tmp 60) w6.heap.size _ _ H8.out.1 H8.out.2.1.size A3 n3 c3 HV H8.out.2.2 (by have h1 := HA.out; have h2 := H7.out.2.2.2; rw [← H8.out.1.len]; omega) rfl rfl rfl rfl ?_; intro A9 n9 c9 w9 hn9 hG9; have H9 := Lib.hid (And.intro hG9.own (show Old w6 w9 from Below.trans H8.out.2.1 hG9.below)); clear hG9) | (at_builtin; refine wp_app_lit (.tmp 61) (.tmp 62) w6.heap.size (.slice A9 n9 c9) _ H9.out.1 H9.out.2.size [188] (by have h1 := HA.out; have h2 := H7.out.2.2.2; rw [List.length_append, ← H8.out.1.len]; omega) (by simp) rfl rfl rfl rfl rfl rfl ?_; intro B1 p1 q1 w10 hp1 hG10; have H10 := Lib.hid (And.intro hG10.own (show Old w6 w10 from Below.trans (H9.out.2.alloc _) hG10.below)); clear hG10))
      refine bodyPost_ret (results_tmp2 rfl _ _ _) rfl ?_
      refine ⟨_, _, _, rfl, ?_, Old.trans HK.out H10.out.2⟩
      show Rd _ _ _ _ (headAnd (xorB (zs k ++ [1] ++ salt) (mask kind HV (k + 1 + m2))) tp ++ HV ++ [188])
      rw [hXL]
      exact H10.out.1.rd
  · rw [if_neg d1]
    obtain ⟨a, r, hp⟩ : ∃ a r, pssF kind bits m1 m2 = (a, r) := ⟨_, _, rfl⟩
    rw [hp] at hps d1 ⊢
    have b1 : (r != 0) = true := by simpa using d1
    have HS := Lib.hid hps
    clear hps hp hl1 hl2 h1 h2 hK
    go_enter Tryd.func20, Tryd.ntmps20
    go_wp2_with fail
    refine HS.out.mono ?_
    rintro e w' ⟨rfl, rfl⟩
    go_wp2_with fail
    refine bodyPost_ret (results_tmp2 rfl _ _ _) rfl ?_
    exact ⟨none, 0, 0, rfl, Rd.nil _, Old.refl _⟩
end Go.Proofs.YtddemlajfbagdaaDoor
