/-
  A drawn region whose operations write to known blocks; a copy as a region's step.
  bytes.Repeat of one byte.
  The tape: Bytes, New of the program.
-/
import Derived.Test.YtdgjjmaiibafhaaDoorReg
import Derived.Test.YtdgjjmaiibafhaaDoorShort
import Derived.Lib.MakeNoZero
import Derived.Test.YtdgjjmaiibafhaaDoorDrA
namespace Go.Proofs.YtdgjjmaiibafhaaDoor
open Go.RowKit

theorem region_turnS {P : Program} {ops : Array Oper} {Q : Exit → Act → World → Prop} {id : Nat} {a : Act} {w : World} (T : List Nat) (hm : P.follows .mixedOrders = true)
    (h : ∀ wd, Old w wd → Turn T w wd → w.heap.size = wd.heap.size → wpAnyH P .any ops (NoPanic Q) (Turn T w) ops.size (Array.replicate ops.size false) a wd) : (Code.region id ops true).wp P Q a w :=
  wp_region_noPanic (wp_region_held_drew hm (Turn.drew (Turn.refl T w)) (fun hS => h _ (Old.drew (Old.refl w)) hS rfl))
theorem step_copyR {ops : Array Oper} {o : Oper} {a : Act} {w : World} {K : Act → World → Prop} {Q : Exit → Act → World → Prop} {E : Prop} (hgd : o.guard = none) (d s : Operand)
    (ho : o.op = .call { callee := .builtin .copy, args := #[d, s], argTypes := #[22, 22] })
    (base g n0 c0 off dl dc : Nat) (l : List UInt8) (hown : Own w base (.slice (some ⟨g, 0, none⟩) n0 c0) l) (hd : a.eval d = .slice (some ⟨g, off, none⟩) dl dc) (hoff : off + dl ≤ l.length)
    (A : Option Addr) (m c : Nat) (l2 : List UInt8) (hs : a.eval s = .slice A m c) (hrd : Rd w A m c l2)
    (h : ∀ w', Own w' base (.slice (some ⟨g, 0, none⟩) n0 c0) (splice l off (l2.take dl)) → w.grownBy w' (some g) → K (a.put o.dst (goInt ((min m dl : Nat) : Int))) w') :
    if Region.wanted o (yielded ops a.tmps) = true then Oper.wp Tryd.prog o a w K Q else E := by
  rw [if_pos (by simp [Region.wanted, hgd])]
  exact op_copy d s ho base g n0 c0 off dl dc l hown hd hoff A m c l2 hs hrd h
/-- The same in a plain region. -/
theorem wp_copyR {ops : Array Oper} {rest : List Oper} {o : Oper} {a : Act} {w : World} {Q : Exit → Act → World → Prop} (hgd : o.guard = none) (d s : Operand)
    (ho : o.op = .call { callee := .builtin .copy, args := #[d, s], argTypes := #[22, 22] })
    (base g n0 c0 off dl dc : Nat) (l : List UInt8) (hown : Own w base (.slice (some ⟨g, 0, none⟩) n0 c0) l) (hd : a.eval d = .slice (some ⟨g, off, none⟩) dl dc) (hoff : off + dl ≤ l.length)
    (A : Option Addr) (m c : Nat) (l2 : List UInt8) (hs : a.eval s = .slice A m c) (hrd : Rd w A m c l2)
    (h : ∀ w', Own w' base (.slice (some ⟨g, 0, none⟩) n0 c0) (splice l off (l2.take dl)) → w.grownBy w' (some g) → wpList Tryd.prog ops Q rest (a.put o.dst (goInt ((min m dl : Nat) : Int))) w') :
    wpList Tryd.prog ops Q (o :: rest) a w :=
  wpList_plain hgd fun _ hK => op_copy d s ho base g n0 c0 off dl dc l hown hd hoff A m c l2 hs hrd fun w' h1 h2 => hK _ _ (h w' h1 h2)
end Go.Proofs.YtdgjjmaiibafhaaDoor
namespace Go.Proofs.YtdgjjmaiibafhaaDoor
set_option maxRecDepth 100000
open Go.RowKit

theorem mul64_one (n : Nat) (hn : n ≤ 64) (w : World) : Calls Tryd.prog 41 #[.int .u64 1, .int .u64 (n : Int)] w fun e w' => e = .returned (.tuple #[.int .u64 0, .int .u64 (n : Int)]) ∧ w = w' := by
  have b1 : bits .and .u64 1 4294967295 = 1 := by decide
  have b3 : bits .and .u64 0 4294967295 = 0 := by decide
  have b2 : bits .and .u64 (n : Int) 4294967295 = (n : Int) := by
    have h : ∀ k : Fin 65, bits .and .u64 ((k.1 : Nat) : Int) 4294967295 = ((k.1 : Nat) : Int) := by decide
    exact h ⟨n, by omega⟩
  have hz : (n : Int) / 4294967296 = 0 := by omega
  have w0 : IntKind.u64.wrap 0 = 0 := by decide
  go_enter Tryd.func41, Tryd.ntmps41
  go_wp2_with fail
  refine bodyPost_ret (results_tmp2 rfl _ _ _) rfl ?_
  exact ⟨rfl, rfl⟩
theorem mul_one_ (n : Nat) (hn : n ≤ 64) (w : World) : Calls Tryd.prog 34 #[.int .u64 1, .int .u64 (n : Int)] w fun e w' => e = .returned (.tuple #[.int .u64 0, .int .u64 (n : Int)]) ∧ w = w' := by
  have h := mul64_one n hn w
  go_enter Tryd.func34, Tryd.ntmps34
  go_wp2_with fail
  refine h.mono ?_
  rintro e w' ⟨rfl, rfl⟩
  go_wp2_with fail
  refine bodyPost_ret (results_tmp2 rfl _ _ _) rfl ?_
  exact ⟨rfl, rfl⟩
theorem run_mnz (w : World) (ps : Array TypeId) (n : Nat) (hn : n ≤ 281474976710656) :
    ∃ l : List UInt8, (Extern.BytealgMakeNoZero.makeNoZero ps #[22] #[.int .i64 n]).run Tryd.prog w = .ok (.slice (some ⟨w.heap.size, 0, none⟩) n l.length) (w.drew.drew.alloc (.cells (l.map B).toArray 5)) ∧ n ≤ l.length ∧ l.length ≤ maxLen := by
  have hdig : ∀ (n t : Nat) (acc : List UInt8), ∃ l : List UInt8, Extern.BytealgMakeNoZero.digits n t (acc.map B).toArray = (l.map B).toArray ∧ l.length = acc.length + n := by
    intro n
    induction n with
    | zero => intro t acc; exact ⟨acc, rfl, rfl⟩
    | succ n ih =>
      intro t acc
      obtain ⟨l, h1, h2⟩ := ih (t / 256) (acc ++ [UInt8.ofNat (t % 256)])
      refine ⟨l, ?_, by rw [h2]; simp; omega⟩
      rw [← h1, Extern.BytealgMakeNoZero.digits]
      congr 1
      rw [List.map_append, List.push_toArray]
      congr 1
      simp [B]
  have hdef : Extern.BytealgMakeNoZero.makeNoZero ps #[22] #[.int .i64 n] =
      (do
        let .slice elem ← underlying 22 | stuck "bytealg.MakeNoZero: slice type expected"
        if (n : Int) < 0 || (n : Int) > 2 ^ 48 then runtimePanic (.error "makeslice: len out of range")
        let cap ← choose (.appendCap (n : Int).toNat 0 elem)
        askRoom cap
        let bytes ← choose (.extern "internal/bytealg.MakeNoZero.bytes" 0)
        let a ← newRow elem (Extern.BytealgMakeNoZero.digits cap bytes #[])
        pure (.slice (some a) (n : Int).toNat cap)) := rfl
  obtain ⟨l, h1, h2⟩ := hdig (grownCap w n 0 5) ((Question.extern "internal/bytealg.MakeNoZero.bytes" 0).cut (w.tape (w.drawn + 1) (.extern "internal/bytealg.MakeNoZero.bytes" 0))) []
  have h3 : l.length = grownCap w n 0 5 := by rw [h2]; simp
  refine ⟨l, ?_, ?_, ?_⟩
  · rw [hdef, ← h1]
    have h1' : ¬ (n : Int) < 0 := by omega
    have h2' : ¬ (281474976710656 : Int) < (n : Int) := by omega
    simp [run_underlying Tryd.underlying22, h1', h2', Question.forced, newRow, grownCap, h3]
  · rw [h3]
    simpa using grownCap_ge w n 0 5
  · rw [h3]
    simpa using grownCap_le_maxLen w n 0 5 (by unfold maxLen; omega)
theorem mnz_call (w : World) (n : Nat) (hn : n ≤ 281474976710656) :
    ∃ l : List UInt8, (callFunc 35 #[.int .i64 (n : Int)]).run Tryd.prog w = .ok (.value (.slice (some ⟨w.heap.size, 0, none⟩) n l.length)) ((w.alloc (.cells (l.map B).toArray 5)).drewN 2) ∧ n ≤ l.length ∧ l.length ≤ maxLen := by
  obtain ⟨l, h1, h2, h3⟩ := run_mnz w #[3] n hn
  refine ⟨l, ?_, h2, h3⟩
  rw [run_callFunc_extern Tryd.func35 (by kernel_rfl) (by kernel_rfl) (by kernel_rfl) (e := Extern.BytealgMakeNoZero.makeNoZero #[3] #[22]) (by kernel_rfl), h1]
  rfl
theorem slice_all3 (A : Option Addr) (m c k : Nat) (hA : ∀ ad, A = some ad → ad.spot = none) (hk : k ≤ c) (w : World) : (Instr.slice 22 (.slice A m c) none (some (.int .i64 (k : Int))) (some (.int .i64 (k : Int)))).run Tryd.prog w = .ok (.slice A k k) w := by
  obtain ⟨i, hi, hz⟩ : ∃ i, Tryd.prog.info? 5 = some i ∧ i.size = 1 := by
    cases h : Tryd.prog.info? 5 with
    | none => have := sz8; rw [h] at this; cases this
    | some i => exact ⟨i, rfl, by have := sz8; rw [h] at this; simpa using this⟩
  unfold Instr.slice
  simp [Sem.run_bind, run_underlying Tryd.underlying22 w, Instr.sliceBounds, Instr.sliceBound, asIntOf, sizeOf, typeInfo, hi]
  rw [if_pos hk, addr_add0 A hA]
  simp
theorem Rd.recap {w : World} {ad : Addr} {m c c' : Nat} {l : List UInt8} (h : Rd w (some ad) m c l) (hm : m ≤ c') (hc : c' ≤ maxLen) : Rd w (some ad) m c' l := by
  obtain ⟨h1, _, _, ⟨h4, _⟩ | h4⟩ := h
  · cases h4
  · exact ⟨h1, hm, hc, .inr h4⟩
theorem run_rep (l : List UInt8) (x : UInt8) (n bp k : Nat) (hl : l.take bp = List.replicate bp x) (h1 : bp + k ≤ l.length) (hk : k ≤ bp) : (splice l bp (l.take k)).take (bp + k) = List.replicate (bp + k) x := by
  have hk2 : l.take k = List.replicate k x := by
    have h := congrArg (List.take k) hl
    rw [List.take_take, Nat.min_eq_left hk, List.take_replicate, Nat.min_eq_left hk] at h
    exact h
  unfold splice
  rw [hl, hk2, ← List.append_assoc, List.replicate_append_replicate, List.take_left' (by simp)]
theorem splice_len (l : List UInt8) (off : Nat) (cs : List UInt8) (h : off + cs.length ≤ l.length) : (splice l off cs).length = l.length := by
  unfold splice
  simp
  omega
set_option maxHeartbeats 1000000 in
theorem repeat_any (x : UInt8) (n : Nat) (h1 : 1 ≤ n) (hn : n ≤ 64) (A : Option Addr) (c : Nat) (w : World) (hr : Rd w A 1 c [x]) :
    Calls Tryd.prog 24 #[.slice A 1 c, .int .i64 (n : Int)] w fun e w' => ∃ g, e = .returned (.slice (some ⟨g, 0, none⟩) n n) ∧ Rd w' (some ⟨g, 0, none⟩) n n (List.replicate n x) ∧ w.heap.size ≤ g ∧ Old w w' := by
  obtain ⟨l, hcall, hnl, hlm⟩ := mnz_call w n (by omega)
  obtain ⟨L, hL⟩ : ∃ L, l.length = L := ⟨_, rfl⟩
  rw [hL] at hcall hnl hlm
  obtain ⟨w1, hw1⟩ : ∃ w1, ((w.alloc (.cells (l.map B).toArray 5)).drewN 2) = w1 := ⟨_, rfl⟩
  rw [hw1] at hcall
  obtain ⟨g, hg⟩ : ∃ g, w.heap.size = g := ⟨_, rfl⟩
  have hO1 : Own w1 g (.slice (some ⟨g, 0, none⟩) L L) l := by
    have : Own (w.alloc (.cells (l.map B).toArray 5)) w.heap.size (.slice (some ⟨w.heap.size, 0, none⟩) L L) l := by
      refine ⟨by simp, .inr ⟨w.heap.size, L, _, by rw [hL], Nat.le_refl _, Blk.new w 5 (l.map B).toArray, by rw [hL]; exact Nat.le_refl _, hlm, by simp [hL], ?_⟩⟩
      rw [List.take_of_length_le (by simp [hL])]
    rw [← hw1, ← hg]
    exact this
  have hb1 : Old w w1 := by rw [← hw1]; exact ((Old.refl w).alloc _).drewN 2
  rw [hg] at hcall
  have hs3 := slice_all3 (some ⟨g, 0, none⟩) n L n (fun ad h => by injection h with h; subst h; rfl) hnl
  have hmul := mul_one_ n hn w
  have H := Lib.hid (And.intro hO1 (And.intro hb1 (And.intro (hr.below hb1) (And.intro hL (And.intro hg hlm)))))
  have z0 : ¬ (n : Int) = 0 := by omega
  have z1 : ¬ (n : Int) < 0 := by omega
  have z2 : ¬ (8192 : Int) < n := by omega
  have z3 : ¬ (9223372036854775807 : Int) < n := by omega
  clear hO1 hb1 hr hL hw1 hg
  go_enter Tryd.func24, Tryd.ntmps24
  go_wp2_with fail
  refine hmul.mono ?_
  rintro e w' ⟨rfl, rfl⟩
  clear hmul
  have hmin : min 1 n = 1 := by omega
  go_wp2_with (refine wp_copyR rfl (.tmp 58) (.tmp 59) rfl g g L L 0 n n l H.out.1 rfl (by have := H.out.2.2.2.1; omega) A 1 c [x] rfl H.out.2.2.1 ?_; intro w2 hO2 hg2; have H2 := Lib.hid (And.intro hO2 hg2); clear hO2 hg2)
  have hb2 : Old w w2 := H.out.2.1.grown H2.out.2 H.out.2.1.size (fun k hk => by cases hk; rw [H.out.2.2.2.2.1]; exact Nat.le_refl _)
  have hO2 := H2.out.1
  have hsp : ([x] : List UInt8).take n = [x] := List.take_of_length_le (by simpa using h1)
  rw [hsp] at hO2
  have hl2 : (splice l 0 [x]).length = L := by rw [splice_len _ _ _ (by have := H.out.2.2.2.1; simp; omega)]; exact H.out.2.2.2.1
  have ht2 : (splice l 0 [x]).take 1 = List.replicate 1 x := by simp [splice]
  have H3 := Lib.hid (And.intro hO2 (And.intro hl2 (And.intro ht2 hb2)))
  clear hb2 hO2 hsp hl2 ht2 hmin hcall hs3
  go_loopw [10] (fun v wr => ∃ (bp : Nat) (l2 : List UInt8), v = .int .i64 (bp : Int) ∧ 1 ≤ bp ∧ bp ≤ n ∧ Own wr g (.slice (some ⟨g, 0, none⟩) L L) l2 ∧ l2.length = L ∧ l2.take bp = List.replicate bp x ∧ Old w wr) (fun v _ => n - (intOf v).toNat)
  case atStart => exact ⟨1, _, rfl, Nat.le_refl _, h1, H3.out.1, H3.out.2.1, H3.out.2.2.1, H3.out.2.2.2⟩
  case round =>
    obtain ⟨bp, l2, rfl, hbp, hbn, hO, hl2, ht, hb⟩ := hrel
    have HR := Lib.hid (And.intro hO (And.intro hl2 (And.intro ht hb)))
    clear hO hl2 ht hb
    by_cases hlt : bp < n
    · have hlti : (bp : Int) < n := by omega
      have hltd : decide ((bp : Int) < (n : Int)) = true := decide_eq_true hlti
      have hs1 : ∀ w, (Instr.slice 22 (.slice (some ⟨g, 0, none⟩) n n) (some (.int .i64 (bp : Int))) none none).run Tryd.prog w = .ok (.slice (some ⟨g, bp, none⟩) (n - bp) (n - bp)) w := fun w => by
        have := slice_from (some ⟨g, 0, none⟩) n n bp (by omega) w
        rw [if_neg (by omega)] at this
        have hb0 : ¬ bp = 0 := by omega
        simpa [Addr.add, hb0] using this
      have hs2 := slice_to (some ⟨g, 0, none⟩) n n bp (fun ad h => by injection h with h; subst h; rfl) (by omega)
      have hmn : min bp (n - bp) ≤ bp := Nat.min_le_left _ _
      obtain ⟨k, hk⟩ : ∃ k, min bp (n - bp) = k := ⟨_, rfl⟩
      have hk1 : 1 ≤ k := by omega
      have hkn : bp + k ≤ n := by omega
      have hwr : IntKind.i64.wrap ((bp : Int) + (k : Int)) = (bp : Int) + (k : Int) := IntWalk.i64_in _ (by omega)
      have HK := Lib.hid hk
      clear hmn hk
      go_wp2_with fail
      refine region_turnS [g] (by kernel_rfl) (fun wd hOd hHeld hSz => ?_)
      have HSz := Lib.hid hSz
      clear hSz
      refine takeL (i := 0) (v := ?_) rfl (by kernel_rfl) (by kernel_rfl) (by kernel_rfl) (fun _ _ _ h => h) (Or.inl ⟨by rfl, ?_⟩) hHeld ?_
      rotate_left
      focus (intro wq hSw; clear hSw; go_simp; try with_reducible rfl)
      try simp only [Act.put, List.setIfInBounds_toArray, List.set_cons_zero, List.set_cons_succ]
      refine takeL (i := 1) (v := ?_) rfl (by kernel_rfl) (by kernel_rfl) (by kernel_rfl) (fun _ _ _ h => h) (Or.inl ⟨by rfl, ?_⟩) hHeld ?_
      rotate_left
      focus (intro wq hSw; clear hSw; go_simp; try with_reducible rfl)
      try simp only [Act.put, List.setIfInBounds_toArray, List.set_cons_zero, List.set_cons_succ]
      refine takeL (i := 2) (v := ?_) rfl (by kernel_rfl) (by kernel_rfl) (by kernel_rfl) (fun _ _ _ h => h) (Or.inl ⟨by rfl, ?_⟩) hHeld ?_
      rotate_left
      focus (intro wq hSw; clear hSw; go_simp; try with_reducible rfl)
      try simp only [Act.put, List.setIfInBounds_toArray, List.set_cons_zero, List.set_cons_succ]
      refine takeL (i := 3) (v := ?_) rfl (by kernel_rfl) (by kernel_rfl) (by kernel_rfl) (fun _ _ _ h => h) (Or.inl ⟨by rfl, ?_⟩) hHeld ?_
      rotate_left
      focus (intro wq hSw; have hRun := hs1 wq; clear hSw; go_simp; try with_reducible rfl)
      try simp only [Act.put, List.setIfInBounds_toArray, List.set_cons_zero, List.set_cons_succ]
      refine takeL (i := 4) (v := ?_) rfl (by kernel_rfl) (by kernel_rfl) (by kernel_rfl) (fun _ _ _ h => h) (Or.inl ⟨by rfl, ?_⟩) hHeld ?_
      rotate_left
      focus (intro wq hSw; clear hSw; go_simp; try with_reducible rfl)
      try simp only [Act.put, List.setIfInBounds_toArray, List.set_cons_zero, List.set_cons_succ]
      refine takeL (i := 5) (v := ?_) rfl (by kernel_rfl) (by kernel_rfl) (by kernel_rfl) (fun _ _ _ h => h) (Or.inl ⟨by rfl, ?_⟩) hHeld ?_
      rotate_left
      focus (intro wq hSw; clear hSw; go_simp; try with_reducible rfl)
      try simp only [Act.put, List.setIfInBounds_toArray, List.set_cons_zero, List.set_cons_succ]
      refine takeL (i := 6) (v := ?_) rfl (by kernel_rfl) (by kernel_rfl) (by kernel_rfl) (fun _ _ _ h => h) (Or.inl ⟨by rfl, ?_⟩) hHeld ?_
      rotate_left
      focus (intro wq hSw; have hRun := hs2 wq; clear hSw; go_simp; try with_reducible rfl)
      try simp only [Act.put, List.setIfInBounds_toArray, List.set_cons_zero, List.set_cons_succ]
      refine wpAnyH_ready (rs := [7]) (by kernel_rfl) (by simp) ?_
      refine consL rfl (fun K hK => ?_) AllReadyH.nil
      refine step_copyR rfl (.tmp 70) (.tmp 73) rfl g g L L bp (n - bp) (n - bp) l2 ((show Own _ g _ l2 from HR.out.1.below hOd)) rfl (by have := HR.out.2.1; omega) (some ⟨g, 0, none⟩) bp n (l2.take bp) rfl (Rd.recap ((HR.out.1.below hOd).rd.front (by omega)) (by omega) (by unfold maxLen; omega)) (fun w4 hO4 hg4 => ?_)
      refine hK.out _ _ (hHeld.grown hg4 (fun k hk => .inl (by cases hk; simp))) (fun hHeld => ?_)
      clear hK K
      try simp only [Act.put, List.setIfInBounds_toArray, List.set_cons_zero, List.set_cons_succ]
      refine takeL (i := 8) (v := ?_) rfl (by kernel_rfl) (by kernel_rfl) (by kernel_rfl) (fun _ _ _ h => h) (Or.inl ⟨by rfl, ?_⟩) hHeld ?_
      rotate_left
      focus (intro wq hSw; have hk := HK.out; clear hSw; go_simp; try with_reducible rfl)
      try simp only [Act.put, List.setIfInBounds_toArray, List.set_cons_zero, List.set_cons_succ]
      refine takeL (i := 9) (v := ?_) rfl (by kernel_rfl) (by kernel_rfl) (by kernel_rfl) (fun _ _ _ h => h) (Or.inl ⟨by rfl, ?_⟩) hHeld ?_
      rotate_left
      focus (intro wq hSw; clear hSw; go_simp; try with_reducible rfl)
      try simp only [Act.put, List.setIfInBounds_toArray, List.set_cons_zero, List.set_cons_succ]
      refine wpAnyH_done (by kernel_rfl) ?_ _
      refine NoPanic.normal ?_
      try simp only [Exit.then]
      go_wp2_with fail
      go_roundw
      case measure => simp [intOf]; omega
      have hkk : (l2.take bp).take (n - bp) = l2.take k := by rw [List.take_take, Nat.min_comm, HK.out]
      have hsl : (splice l2 bp (l2.take k)).length = L := by
        rw [splice_len _ _ _ (by have := HR.out.2.1; simp; omega)]; exact HR.out.2.1
      rw [hkk] at hO4
      exact ⟨bp + k, _, by simp, by omega, hkn, hO4, hsl, run_rep l2 x n bp k HR.out.2.2.1 (by have := HR.out.2.1; omega) (by have := HK.out; omega), below_turn HR.out.2.2.2 hHeld (by have := H.out.2.2.2.2.1; simp; omega) HR.out.2.2.2.size⟩
    · obtain rfl : bp = n := by omega
      have hlti : ¬ (bp : Int) < bp := by omega
      have hltd : decide ((bp : Int) < (bp : Int)) = false := decide_eq_false hlti
      go_wp2_with fail
      go_ret
      refine ⟨g, rfl, ?_, by have := H.out.2.2.2.2.1; omega, HR.out.2.2.2⟩
      have := (HR.out.1.rd).front (k := bp) (by omega)
      rw [HR.out.2.2.1] at this
      exact this.recap (Nat.le_refl _) (by unfold maxLen; omega)
end Go.Proofs.YtdgjjmaiibafhaaDoor
namespace Go.Proofs.YtdgjjmaiibafhaaDoor
set_option maxRecDepth 100000
open Go.RowKit

theorem neDrbg (w : World) (a : Addr) : (binOp .eql 35 (.pointer (some a)) (.pointer none)).run Tryd.prog w = .ok (.bool false) w := by kernel_rfl
theorem Own.turnB {w w' : World} {base d : Nat} {v : Value} {l : List UInt8} {t : TypeId} {cs : Array Value} (h : Own w base v l) (ht : Turn [d] w w') (hb : Blk w d t cs) (hne : t ≠ 5) : Own w' base v l :=
  h.turn ht fun g hg hm => by rw [List.mem_singleton] at hm; subst hm; exact h.ne hb hne hg
/-- What stands at every round: the key's row as it was, the value's row beside the one that grows. -/
def LoopD (wr : World) (d : Nat) (A1 : Option Addr) (c1 : Nat) (v : Value) (s : DS) (left : Int) : Prop := ∃ A2 c2, Blk wr d 51 #[.slice A1 32 c1, .slice A2 32 c2, .int .i64 left] ∧ Rd wr A1 32 c1 s.K ∧ Rd wr A2 32 c2 s.V ∧ ∀ ad, A2 = some ad → v.ownBlock ≠ some ad.block
set_option maxHeartbeats 2000000 in
theorem bytes_any (d : Nat) (s : DS) (left : Int) (n : Nat) (w : World) (h : DrAt w d s left) (h1 : 1 ≤ n) (hn : n ≤ 65536) (hl0 : 0 ≤ left) (hl1 : left ≤ 1000000000) (hT : KAt w) (hd : d ≠ 1) :
    Calls Tryd.prog 27 #[.pointer (some ⟨d, 0, none⟩), .int .i64 (n : Int)] w fun e w' => ∃ A, e = .returned (.slice A n n) ∧ Rd w' A n n (s.bytes n).1 ∧ (∀ ad, A = some ad → w.heap.size ≤ ad.block) ∧ DrAt w' d (s.bytes n).2 (left + 1) ∧ Turn [d] w w' := by
  have hok := h.ok
  obtain ⟨A1, c1, A2, c2, hB, r1, r2⟩ := h
  have H := Lib.hid (And.intro hB (And.intro hT (And.intro hd (And.intro hok (And.intro r1 (And.intro r2 (show ∀ ad, A1 = some ad → ad.block < w.heap.size from r1.lt)))))))
  have HL := Lib.hid (And.intro hl0 hl1)
  have t1 : ¬ (n : Int) < 1 := by omega
  have t2 : ¬ (65536 : Int) < n := by omega
  have kn := neDrbg
  obtain ⟨X, hX⟩ : ∃ X, w.heap.size = X := ⟨_, rfl⟩
  have HX := Lib.hid hX
  rw [hX]
  clear hB r1 r2 hT hd hok hl0 hl1 hX
  go_enter Tryd.func27, Tryd.ntmps27
  go_wp2_with fail
  clear kn
  go_loopw [5] (fun v wr => ∃ (k : Nat) (A : Option Addr) (n5 c5 : Nat), v = .slice A n5 c5 ∧ n5 = 32 * k ∧ k ≤ DS.rounds n ∧ Own wr X (.slice A n5 c5) (s.gen k).1 ∧ LoopD wr d A1 c1 (.slice A n5 c5) (s.gen k).2 left ∧ Turn [d] w wr) (fun v _ => 65600 - sliceLen v)
  case atStart => exact ⟨0, none, 0, 0, rfl, rfl, Nat.zero_le _, Own.nil _ _, ⟨A2, c2, H.out.1, H.out.2.2.2.2.1, H.out.2.2.2.2.2.1, fun ad had => by simp [Value.ownBlock]⟩, Turn.refl _ _⟩
  case round =>
    obtain ⟨k, A5, n5, c5, rfl, hn5, hk, hO, hD, hTw⟩ := hrel
    have hkr : 32 * k ≤ n + 31 := by unfold DS.rounds at hk; omega
    by_cases hlt : n5 < n
    · have hlti : (n5 : Int) < n := by omega
      have hltd : decide ((n5 : Int) < (n : Int)) = true := decide_eq_true hlti
      obtain ⟨A2, c2, hB, r1, r2, _⟩ := hD
      obtain ⟨s1, hs1⟩ : ∃ s1, (s.gen k).2 = s1 := ⟨_, rfl⟩
      rw [hs1] at r1 r2
      have hTk : KAt wr := H.out.2.1.turn hTw (by simp; exact fun e => H.out.2.2.1 e.symm)
      have mc := mac_one d s1 A1 A2 c1 c2 left wr hB r1 r2 hTk
      have q1 := hB.cell 1
      simp at q1
      have hk1 : k + 1 ≤ DS.rounds n := by unfold DS.rounds; omega
      have hgen : (s.gen (k + 1)).1 = (s.gen k).1 ++ hm s1.K s1.V ∧ (s.gen (k + 1)).2 = ⟨s1.K, hm s1.K s1.V⟩ := by rw [← hs1]; exact ⟨rfl, rfl⟩
      have hgl : (s.gen k).1.length = 32 * k := DS.gen_len H.out.2.2.2.1 k
      have HR := Lib.hid (And.intro hB (And.intro r1 (And.intro hO (And.intro hTw (And.intro hk1 (And.intro hgen hgl))))))
      have hn5r : n5 ≤ 65536 := by omega
      have HN := Lib.hid hn5
      clear hB r1 r2 hO hTw hk1 hgen hgl hTk hs1 hk hn5 hkr
      go_wp2_with fail
      refine mc.mono ?_
      rintro e w2 ⟨Av, cv, rfl, hv, hO2, hAv⟩
      have hBc := Blk.below HR.out.1 hO2
      have f1 := hBc.frozen 1
      have q1 := hBc.cell 1
      simp at q1
      obtain ⟨W, hW⟩ : ∃ W, w2.setCell ⟨d, 1, none⟩ (.slice Av 32 cv) = W := ⟨_, rfl⟩
      have hBd : Blk W d 51 #[.slice A1 32 c1, .slice Av 32 cv, .int .i64 left] := by
        rw [← hW]
        have := hBc.set_ 1 (.slice Av 32 cv)
        simpa using this
      have hTc : Turn [d] w2 W := by
        rw [← hW]
        exact (Turn.refl _ _).setCell (.inl (by simp)) _
      have hTd : Turn [d] wr W := (Turn.of_below [d] hO2).trans hTc (fun x hx => .inl hx)
      have hkd : Rd W A1 32 c1 s1.K := (HR.out.2.1.below hO2).turnN (by decide) hTc (one_noB d (NoB.of hBc rfl))
      have hvd : Rd W Av 32 cv (hm s1.K s1.V) := hv.turnN (by decide) hTc (one_noB d (NoB.of hBc rfl))
      have hOd : Own W X (.slice A5 n5 c5) (s.gen k).1 := HR.out.2.2.1.turnB hTd HR.out.1 (by decide)
      have hXW : X ≤ W.heap.size := Nat.le_trans (by rw [← HX.out]; exact HR.out.2.2.2.1.size) hTd.size
      have q1' := hBd.cell 1
      simp at q1'
      rw [← hW] at q1'
      have HW := Lib.hid (And.intro hBd (And.intro hkd (And.intro hvd (And.intro hOd (And.intro hTd (And.intro hXW (And.intro hW (And.intro (show (hm s1.K s1.V).length = 32 from hvd.1.symm) (And.intro hAv (show ∀ ad, Av = some ad → ad.block < W.heap.size from hvd.lt))))))))))
      clear mc hBc hBd hTc hTd hkd hvd hOd hXW hv hO2 hW hAv
      go_wp2_with (at_builtin; go_loud (refine wp_app2 (.tmp 30) (.tmp 34) X (.slice A5 n5 c5) (s.gen k).1 (by rw [HW.out.2.2.2.2.2.2.1]; exact HW.out.2.2.2.1) (by rw [HW.out.2.2.2.2.2.2.1]; exact HW.out.2.2.2.2.2.1) Av 32 cv (hm s1.K s1.V) (by rw [HW.out.2.2.2.2.2.2.1]; exact HW.out.2.2.1) (by have := HR.out.2.2.2.2.2.2; have := HW.out.2.2.2.2.2.2.2.1; have := HN.out; omega) rfl rfl rfl rfl ?_); intro A9 n9 c9 w9 hn9 hG; have HG := Lib.hid hG; clear hG)
      go_roundw
      case measure => have h9 := HG.out.len; rw [List.length_append, HR.out.2.2.2.2.2.2, HW.out.2.2.2.2.2.2.2.1] at h9; have := HN.out; simp [sliceLen]; omega
      have hG := HG.out
      rw [HW.out.2.2.2.2.2.2.1] at hG
      have hT9 : Turn (Value.slice A5 n5 c5).ownBlock.toList W w9 := ⟨hG.grown.os, hG.grown.tape, hG.grown.output, hG.grown.size, fun q hq hm => hG.grown.block q hq (fun e => hm (by rw [← e]; simp))⟩
      have hnd : d ∉ (Value.slice A5 n5 c5).ownBlock.toList := fun hm => HW.out.2.2.2.1.ne HW.out.1 (by decide) (by simpa using hm)
      have hX5 : ∀ g ∈ (Value.slice A5 n5 c5).ownBlock.toList, X ≤ g ∧ g < wr.heap.size := fun g hg => HR.out.2.2.1.lt (by simpa using hg)
      have hr1 : Rd w9 A1 32 c1 s1.K := HW.out.2.1.turn hT9 fun ad had hm => by have := (hX5 _ hm).1; have := H.out.2.2.2.2.2.2 ad had; have := HX.out; omega
      have hr2 : Rd w9 Av 32 cv (hm s1.K s1.V) := HW.out.2.2.1.turn hT9 fun ad had hm => by have := (hX5 _ hm).2; have := HW.out.2.2.2.2.2.2.2.2.1 ad had; omega
      have hn9' : n9 = 32 * (k + 1) := by have h9 := hG.len; rw [List.length_append, HR.out.2.2.2.2.2.2, HW.out.2.2.2.2.2.2.2.1] at h9; omega
      refine ⟨k + 1, A9, n9, c9, rfl, hn9', HR.out.2.2.2.2.1, ?_, ⟨Av, cv, HW.out.1.turn hT9 hnd, ?_, ?_, fun ad had => ?_⟩, ?_⟩
      · rw [HR.out.2.2.2.2.2.1.1]; exact hG.own
      · rw [HR.out.2.2.2.2.2.1.2]; exact hr1
      · rw [HR.out.2.2.2.2.2.1.2]; exact hr2
      · have hlt2 := HW.out.2.2.2.2.2.2.2.2.2 ad had
        have hge2 := HW.out.2.2.2.2.2.2.2.2.1 ad had
        rcases hG.at_ with e | e
        · rw [e]
          intro e2
          have := (HR.out.2.2.1.lt e2).2
          omega
        · rw [e]
          intro e2
          injection e2 with e2
          omega
      · refine (HR.out.2.2.2.1.trans HW.out.2.2.2.2.1 (fun x hx => .inl hx)).trans hT9 fun x hx => ?_
        have := (hX5 x hx).1
        have := HX.out
        exact .inr (by omega)
    · have hlti : ¬ (n5 : Int) < n := by omega
      have hltd : decide ((n5 : Int) < (n : Int)) = false := decide_eq_false hlti
      have hkk : k = DS.rounds n := by unfold DS.rounds at hk ⊢; omega
      subst hkk
      obtain ⟨s1, hs1⟩ : ∃ s1, (s.gen (DS.rounds n)).2 = s1 := ⟨_, rfl⟩
      rw [hs1] at hD
      obtain ⟨A2, c2, hB, r1, r2, _⟩ := hD
      have hTk : KAt wr := H.out.2.1.turn hTw (by simp; exact fun e => H.out.2.2.1 e.symm)
      have hup := update_any d s1 left none 0 0 [] wr ⟨A1, c1, A2, c2, hB, r1, r2⟩ (Rd.nil wr) (by simp) hTk H.out.2.2.1
      have hc5 := hO.rd.2.1
      have hs3 := slice_all3 A5 n5 c5 n (fun ad had => hO.rd.spot ad had) (by omega)
      have HR := Lib.hid (And.intro hB (And.intro hO (And.intro hTw (And.intro hs1 (show n ≤ n5 by omega)))))
      clear hB r1 r2 hO hTw hk hTk hs1 hn5 hkr
      go_wp2_with fail
      refine hup.mono ?_
      rintro e w2 ⟨rfl, ⟨A3, c3, A4, c4, hB2, r3, r4⟩, hT2⟩
      have f2 := hB2.frozen 2
      have q2 := hB2.cell 2
      simp at q2
      have hwr : IntKind.i64.wrap (left + 1) = left + 1 := IntWalk.i64_in _ (by have := HL.out; omega)
      obtain ⟨W, hW⟩ : ∃ W, w2.setCell ⟨d, 2, none⟩ (.int .i64 (left + 1)) = W := ⟨_, rfl⟩
      have hBd : Blk W d 51 #[.slice A3 32 c3, .slice A4 32 c4, .int .i64 (left + 1)] := by
        rw [← hW]
        have := hB2.set_ 2 (.int .i64 (left + 1))
        simpa using this
      have hTc : Turn [d] w2 W := by
        rw [← hW]
        exact (Turn.refl _ _).setCell (.inl (by simp)) _
      have hTd : Turn [d] wr W := hT2.trans hTc (fun x hx => .inl hx)
      have hD9 : DrAt W d (s1.upd []) (left + 1) := ⟨A3, c3, A4, c4, hBd, r3.turnN (by decide) hTc (one_noB d (NoB.of hB2 rfl)), r4.turnN (by decide) hTc (one_noB d (NoB.of hB2 rfl))⟩
      have hO9 : Own W X (.slice A5 n5 c5) (s.gen (DS.rounds n)).1 := HR.out.2.1.turnB hTd HR.out.1 (by decide)
      have H9 := Lib.hid (And.intro hD9 (And.intro hO9 (HR.out.2.2.1.trans hTd (fun x hx => .inl hx))))
      have HW := Lib.hid hW
      clear hup hB2 r3 r4 hT2 hBd hTc hTd hD9 hO9 hW
      go_wp2_with fail
      rw [HW.out]
      go_ret
      have hb : s.bytes n = ((s.gen (DS.rounds n)).1.take n, s1.upd []) := by rw [← HR.out.2.2.2.1]; rfl
      rw [hb]
      refine ⟨A5, rfl, ?_, fun ad had => H9.out.2.1.addr_ge ad had, H9.out.1, H9.out.2.2⟩
      have := H9.out.2.1.rd.front (k := n) HR.out.2.2.2.2
      exact ⟨this.1, Nat.le_refl _, by unfold maxLen; omega, by
        rcases this.2.2.2 with h | h
        · exfalso; have := H9.out.2.1.rd.2.1; have := HR.out.2.2.2.2; have := h.2; omega
        · exact .inr h⟩
theorem rd_lit1 (w : World) : Rd (w.alloc (.cells #[.int .u8 1] 5)) (some ⟨w.heap.size, 0, none⟩) 1 1 [1] := rd_lit (l2 := [1]) rfl rfl (by simp)
theorem rd_lit2 (w : World) (o : Obj) : Rd ((w.alloc o).alloc (.cells #[.int .u8 1] 5)) (some ⟨w.heap.size + 1, 0, none⟩) 1 1 [1] := by
  have h := rd_lit1 (w.alloc o)
  rwa [show (w.alloc o).heap.size = w.heap.size + 1 from by simp] at h
theorem two_newD (wr : World) (o : Obj) (t : TypeId) (cs : Array Value) : Blk ((wr.alloc o).alloc (.cells cs t)) (wr.heap.size + 1) t cs := by
  have h := Blk.new (wr.alloc o) t cs
  simpa using h
theorem rd_zeros (w : World) : Rd (w.alloc (.cells (madeCells #[.int .u8 0] 32) 5)) (some ⟨w.heap.size, 0, none⟩) 32 32 (zs 32) := (own_make w 32 (by omega)).rd
theorem rd_zeros2 (w : World) (o : Obj) : Rd ((w.alloc o).alloc (.cells (madeCells #[.int .u8 0] 32) 5)) (some ⟨w.heap.size + 1, 0, none⟩) 32 32 (zs 32) := by
  have h := rd_zeros (w.alloc o)
  rwa [show (w.alloc o).heap.size = w.heap.size + 1 from by simp] at h
set_option maxHeartbeats 2000000 in
theorem drnew_any (A3 : Option Addr) (m3 c3 : Nat) (ent : List UInt8) (w : World) (hr : Rd w A3 m3 c3 ent) (hl : ent.length ≤ 140737488351300) (hT : KAt w) :
    Calls Tryd.prog 12 #[.slice A3 m3 c3] w fun e w' => ∃ d, e = .returned (.pointer (some ⟨d, 0, none⟩)) ∧ DrAt w' d (DS.new ent) 0 ∧ w.heap.size ≤ d ∧ Old w w' := by
  have H := Lib.hid (And.intro hr (And.intro hl hT))
  have hmk := Tryd.prog_make 32 (by decide)
  rw [show ((32 : Nat) : Int) = 32 from rfl] at hmk
  clear hr hl hT
  go_enter Tryd.func12, Tryd.ntmps12
  go_wp2_with fail
  refine region_old (by kernel_rfl) (fun wd hHeld hSz => ?_)
  clear hSz
  have hOd := hHeld
  refine wpAnyH_ready (rs := [0, 1]) (by kernel_rfl) (by simp) ?_
  refine consL rfl (fun K hK => ?_) (consL rfl (fun K hK => ?_) AllReadyH.nil)
  · go_simp
    refine hK.out _ _ (by repeat (first | exact hHeld | exact Old.refl _ | assumption | refine Old.drew ?_ | refine Old.drewN ?_ _ | refine Old.alloc ?_ _)) (fun hHeld => ?_)
    clear hK K
    try simp only [Act.put, List.setIfInBounds_toArray, List.set_cons_zero, List.set_cons_succ]
    refine wpAnyH_ready (rs := [1]) (by kernel_rfl) (by simp) ?_
    refine consL rfl (fun K hK => ?_) AllReadyH.nil
    go_simp
    refine hK.out _ _ (by repeat (first | exact hHeld | exact Old.refl _ | assumption | refine Old.drew ?_ | refine Old.drewN ?_ _ | refine Old.alloc ?_ _)) (fun hHeld => ?_)
    clear hK K
    try simp only [Act.put, List.setIfInBounds_toArray, List.set_cons_zero, List.set_cons_succ]
    refine wpAnyH_ready (rs := [2]) (by kernel_rfl) (by simp) ?_
    refine consL rfl (fun K hK => ?_) AllReadyH.nil
    go_simp
    refine (repeat_any 1 32 (by omega) (by omega) _ _ _ (rd_lit2 wd _)).mono ?_
    rintro e w4 ⟨g4, rfl, r4, hg4, hO4⟩
    refine hK.out _ _ (Old.trans hHeld hO4) (fun hHeld => ?_)
    clear hK K
    try simp only [Act.put, List.setIfInBounds_toArray, List.set_cons_zero, List.set_cons_succ]
    refine takeL (i := 3) (v := ?_) rfl (by kernel_rfl) (by kernel_rfl) (by kernel_rfl) (fun _ _ _ h => h) (Or.inl ⟨by rfl, ?_⟩) hHeld ?_
    rotate_left
    focus (intro wq hSw; clear hSw; go_simp; try with_reducible rfl)
    try simp only [Act.put, List.setIfInBounds_toArray, List.set_cons_zero, List.set_cons_succ]
    refine wpAnyH_ready (rs := [4]) (by kernel_rfl) (by simp) ?_
    refine consL rfl (fun K hK => ?_) AllReadyH.nil
    go_simp
    refine hK.out _ _ (by repeat (first | exact hHeld | exact Old.refl _ | assumption | refine Old.drew ?_ | refine Old.drewN ?_ _ | refine Old.alloc ?_ _)) (fun hHeld => ?_)
    clear hK K
    try simp only [Act.put, List.setIfInBounds_toArray, List.set_cons_zero, List.set_cons_succ]
    refine takeL (i := 5) (v := ?_) rfl (by kernel_rfl) (by kernel_rfl) (by kernel_rfl) (fun _ _ _ h => h) (Or.inl ⟨by rfl, ?_⟩) hHeld ?_
    rotate_left
    focus (intro wq hSw; clear hSw; go_simp; try with_reducible rfl)
    try simp only [Act.put, List.setIfInBounds_toArray, List.set_cons_zero, List.set_cons_succ]
    refine wpAnyH_done (by kernel_rfl) ?_ _
    refine NoPanic.normal ?_
    try simp only [Exit.then]
    obtain ⟨d, hd⟩ : ∃ d, w4.heap.size = d := ⟨_, rfl⟩
    have hbx : Blk (w4.alloc (.cells #[.slice (some ⟨wd.heap.size, 0, none⟩) 32 32, .slice (some ⟨g4, 0, none⟩) 32 32, .int .i64 0] 51)) d 51 #[.slice (some ⟨wd.heap.size, 0, none⟩) 32 32, .slice (some ⟨g4, 0, none⟩) 32 32, .int .i64 0] := by rw [← hd]; exact Blk.new _ _ _
    have hOx : Old w (w4.alloc (.cells #[.slice (some ⟨wd.heap.size, 0, none⟩) 32 32, .slice (some ⟨g4, 0, none⟩) 32 32, .int .i64 0] 51)) := Old.alloc (Old.trans (Old.alloc (Old.alloc hOd _) _) hO4) _
    obtain ⟨wx, hwx⟩ : ∃ wx, (w4.alloc (.cells #[.slice (some ⟨wd.heap.size, 0, none⟩) 32 32, .slice (some ⟨g4, 0, none⟩) 32 32, .int .i64 0] 51)) = wx := ⟨_, rfl⟩
    have hdr : DrAt wx d ⟨zs 32, List.replicate 32 1⟩ 0 := by rw [← hwx]; exact ⟨_, _, _, _, hbx, ((((rd_zeros wd).below ((Old.refl _).alloc _)).below hO4).below ((Old.refl _).alloc _)), (r4.below ((Old.refl _).alloc _))⟩
    rw [hwx] at hOx
    have hdw : w.heap.size ≤ d := by rw [← hd]; have := (Old.trans (Old.alloc (Old.alloc hOd (.cells (madeCells #[.int .u8 0] 32) 5)) (.cells #[.int .u8 1] 5)) hO4).size; omega
    have hup := update_any d ⟨zs 32, List.replicate 32 1⟩ 0 A3 m3 c3 ent wx hdr (H.out.1.below hOx) H.out.2.1 (H.out.2.2.below hOx) (by have := H.out.2.2.1; omega)
    rw [hd]
    have HX := Lib.hid (And.intro hdr (And.intro hOx hdw))
    have HW := Lib.hid hwx
    clear hdr hOx hdw hwx hbx hd r4 hO4 hg4 hHeld hOd
    go_wp2_with fail
    rw [HW.out]
    refine hup.mono ?_
    rintro e w5 ⟨rfl, hD5, hT5⟩
    have H5 := Lib.hid (And.intro hD5 (below_turn HX.out.2.1 hT5 (by simp; exact HX.out.2.2) HX.out.2.1.size))
    clear hup hD5 hT5
    go_wp2_with fail
    go_ret
    exact ⟨d, rfl, H5.out.1, HX.out.2.2, H5.out.2⟩
  · go_simp
    refine hK.out _ _ (by repeat (first | exact hHeld | exact Old.refl _ | assumption | refine Old.drew ?_ | refine Old.drewN ?_ _ | refine Old.alloc ?_ _)) (fun hHeld => ?_)
    clear hK K
    try simp only [Act.put, List.setIfInBounds_toArray, List.set_cons_zero, List.set_cons_succ]
    refine wpAnyH_ready (rs := [0, 2]) (by kernel_rfl) (by simp) ?_
    refine consL rfl (fun K hK => ?_) (consL rfl (fun K hK => ?_) AllReadyH.nil)
    · go_simp
      refine hK.out _ _ (by repeat (first | exact hHeld | exact Old.refl _ | assumption | refine Old.drew ?_ | refine Old.drewN ?_ _ | refine Old.alloc ?_ _)) (fun hHeld => ?_)
      clear hK K
      try simp only [Act.put, List.setIfInBounds_toArray, List.set_cons_zero, List.set_cons_succ]
      refine wpAnyH_ready (rs := [2]) (by kernel_rfl) (by simp) ?_
      refine consL rfl (fun K hK => ?_) AllReadyH.nil
      go_simp
      refine (repeat_any 1 32 (by omega) (by omega) _ _ _ ((rd_lit1 wd).below ((Old.refl _).alloc _))).mono ?_
      rintro e w4 ⟨g4, rfl, r4, hg4, hO4⟩
      refine hK.out _ _ (Old.trans hHeld hO4) (fun hHeld => ?_)
      clear hK K
      try simp only [Act.put, List.setIfInBounds_toArray, List.set_cons_zero, List.set_cons_succ]
      refine takeL (i := 3) (v := ?_) rfl (by kernel_rfl) (by kernel_rfl) (by kernel_rfl) (fun _ _ _ h => h) (Or.inl ⟨by rfl, ?_⟩) hHeld ?_
      rotate_left
      focus (intro wq hSw; clear hSw; go_simp; try with_reducible rfl)
      try simp only [Act.put, List.setIfInBounds_toArray, List.set_cons_zero, List.set_cons_succ]
      refine wpAnyH_ready (rs := [4]) (by kernel_rfl) (by simp) ?_
      refine consL rfl (fun K hK => ?_) AllReadyH.nil
      go_simp
      refine hK.out _ _ (by repeat (first | exact hHeld | exact Old.refl _ | assumption | refine Old.drew ?_ | refine Old.drewN ?_ _ | refine Old.alloc ?_ _)) (fun hHeld => ?_)
      clear hK K
      try simp only [Act.put, List.setIfInBounds_toArray, List.set_cons_zero, List.set_cons_succ]
      refine takeL (i := 5) (v := ?_) rfl (by kernel_rfl) (by kernel_rfl) (by kernel_rfl) (fun _ _ _ h => h) (Or.inl ⟨by rfl, ?_⟩) hHeld ?_
      rotate_left
      focus (intro wq hSw; clear hSw; go_simp; try with_reducible rfl)
      try simp only [Act.put, List.setIfInBounds_toArray, List.set_cons_zero, List.set_cons_succ]
      refine wpAnyH_done (by kernel_rfl) ?_ _
      refine NoPanic.normal ?_
      try simp only [Exit.then]
      obtain ⟨d, hd⟩ : ∃ d, w4.heap.size = d := ⟨_, rfl⟩
      have hbx : Blk (w4.alloc (.cells #[.slice (some ⟨(wd.heap.size + 1), 0, none⟩) 32 32, .slice (some ⟨g4, 0, none⟩) 32 32, .int .i64 0] 51)) d 51 #[.slice (some ⟨(wd.heap.size + 1), 0, none⟩) 32 32, .slice (some ⟨g4, 0, none⟩) 32 32, .int .i64 0] := by rw [← hd]; exact Blk.new _ _ _
      have hOx : Old w (w4.alloc (.cells #[.slice (some ⟨(wd.heap.size + 1), 0, none⟩) 32 32, .slice (some ⟨g4, 0, none⟩) 32 32, .int .i64 0] 51)) := Old.alloc (Old.trans (Old.alloc (Old.alloc hOd _) _) hO4) _
      obtain ⟨wx, hwx⟩ : ∃ wx, (w4.alloc (.cells #[.slice (some ⟨(wd.heap.size + 1), 0, none⟩) 32 32, .slice (some ⟨g4, 0, none⟩) 32 32, .int .i64 0] 51)) = wx := ⟨_, rfl⟩
      have hdr : DrAt wx d ⟨zs 32, List.replicate 32 1⟩ 0 := by rw [← hwx]; exact ⟨_, _, _, _, hbx, (((rd_zeros2 wd _).below hO4).below ((Old.refl _).alloc _)), (r4.below ((Old.refl _).alloc _))⟩
      rw [hwx] at hOx
      have hdw : w.heap.size ≤ d := by rw [← hd]; have := (Old.trans (Old.alloc (Old.alloc hOd (.cells #[.int .u8 1] 5)) (.cells (madeCells #[.int .u8 0] 32) 5)) hO4).size; omega
      have hup := update_any d ⟨zs 32, List.replicate 32 1⟩ 0 A3 m3 c3 ent wx hdr (H.out.1.below hOx) H.out.2.1 (H.out.2.2.below hOx) (by have := H.out.2.2.1; omega)
      rw [hd]
      have HX := Lib.hid (And.intro hdr (And.intro hOx hdw))
      have HW := Lib.hid hwx
      clear hdr hOx hdw hwx hbx hd r4 hO4 hg4 hHeld hOd
      go_wp2_with fail
      rw [HW.out]
      refine hup.mono ?_
      rintro e w5 ⟨rfl, hD5, hT5⟩
      have H5 := Lib.hid (And.intro hD5 (below_turn HX.out.2.1 hT5 (by simp; exact HX.out.2.2) HX.out.2.1.size))
      clear hup hD5 hT5
      go_wp2_with fail
      go_ret
      exact ⟨d, rfl, H5.out.1, HX.out.2.2, H5.out.2⟩
    · go_simp
      refine (repeat_any 1 32 (by omega) (by omega) _ _ _ (rd_lit1 wd)).mono ?_
      rintro e w4 ⟨g4, rfl, r4, hg4, hO4⟩
      refine hK.out _ _ (Old.trans hHeld hO4) (fun hHeld => ?_)
      clear hK K
      try simp only [Act.put, List.setIfInBounds_toArray, List.set_cons_zero, List.set_cons_succ]
      refine wpAnyH_ready (rs := [0]) (by kernel_rfl) (by simp) ?_
      refine consL rfl (fun K hK => ?_) AllReadyH.nil
      go_simp
      refine hK.out _ _ (by repeat (first | exact hHeld | exact Old.refl _ | assumption | refine Old.drew ?_ | refine Old.drewN ?_ _ | refine Old.alloc ?_ _)) (fun hHeld => ?_)
      clear hK K
      try simp only [Act.put, List.setIfInBounds_toArray, List.set_cons_zero, List.set_cons_succ]
      refine takeL (i := 3) (v := ?_) rfl (by kernel_rfl) (by kernel_rfl) (by kernel_rfl) (fun _ _ _ h => h) (Or.inl ⟨by rfl, ?_⟩) hHeld ?_
      rotate_left
      focus (intro wq hSw; clear hSw; go_simp; try with_reducible rfl)
      try simp only [Act.put, List.setIfInBounds_toArray, List.set_cons_zero, List.set_cons_succ]
      refine wpAnyH_ready (rs := [4]) (by kernel_rfl) (by simp) ?_
      refine consL rfl (fun K hK => ?_) AllReadyH.nil
      go_simp
      refine hK.out _ _ (by repeat (first | exact hHeld | exact Old.refl _ | assumption | refine Old.drew ?_ | refine Old.drewN ?_ _ | refine Old.alloc ?_ _)) (fun hHeld => ?_)
      clear hK K
      try simp only [Act.put, List.setIfInBounds_toArray, List.set_cons_zero, List.set_cons_succ]
      refine takeL (i := 5) (v := ?_) rfl (by kernel_rfl) (by kernel_rfl) (by kernel_rfl) (fun _ _ _ h => h) (Or.inl ⟨by rfl, ?_⟩) hHeld ?_
      rotate_left
      focus (intro wq hSw; clear hSw; go_simp; try with_reducible rfl)
      try simp only [Act.put, List.setIfInBounds_toArray, List.set_cons_zero, List.set_cons_succ]
      refine wpAnyH_done (by kernel_rfl) ?_ _
      refine NoPanic.normal ?_
      try simp only [Exit.then]
      obtain ⟨d, hd⟩ : ∃ d, (w4.heap.size + 1) = d := ⟨_, rfl⟩
      have hbx : Blk ((w4.alloc (.cells (madeCells #[.int .u8 0] 32) 5)).alloc (.cells #[.slice (some ⟨w4.heap.size, 0, none⟩) 32 32, .slice (some ⟨g4, 0, none⟩) 32 32, .int .i64 0] 51)) d 51 #[.slice (some ⟨w4.heap.size, 0, none⟩) 32 32, .slice (some ⟨g4, 0, none⟩) 32 32, .int .i64 0] := by rw [← hd]; exact two_newD _ _ _ _
      have hOx : Old w ((w4.alloc (.cells (madeCells #[.int .u8 0] 32) 5)).alloc (.cells #[.slice (some ⟨w4.heap.size, 0, none⟩) 32 32, .slice (some ⟨g4, 0, none⟩) 32 32, .int .i64 0] 51)) := Old.alloc (Old.alloc (Old.trans (Old.alloc hOd _) hO4) _) _
      obtain ⟨wx, hwx⟩ : ∃ wx, ((w4.alloc (.cells (madeCells #[.int .u8 0] 32) 5)).alloc (.cells #[.slice (some ⟨w4.heap.size, 0, none⟩) 32 32, .slice (some ⟨g4, 0, none⟩) 32 32, .int .i64 0] 51)) = wx := ⟨_, rfl⟩
      have hdr : DrAt wx d ⟨zs 32, List.replicate 32 1⟩ 0 := by rw [← hwx]; exact ⟨_, _, _, _, hbx, ((rd_zeros w4).below ((Old.refl _).alloc _)), ((r4.below ((Old.refl _).alloc _)).below ((Old.refl _).alloc _))⟩
      rw [hwx] at hOx
      have hdw : w.heap.size ≤ d := by rw [← hd]; have := (Old.trans (Old.alloc hOd (.cells #[.int .u8 1] 5)) hO4).size; omega
      have hup := update_any d ⟨zs 32, List.replicate 32 1⟩ 0 A3 m3 c3 ent wx hdr (H.out.1.below hOx) H.out.2.1 (H.out.2.2.below hOx) (by have := H.out.2.2.1; omega)
      rw [hd]
      have HX := Lib.hid (And.intro hdr (And.intro hOx hdw))
      have HW := Lib.hid hwx
      clear hdr hOx hdw hwx hbx hd r4 hO4 hg4 hHeld hOd
      go_wp2_with fail
      rw [HW.out]
      refine hup.mono ?_
      rintro e w5 ⟨rfl, hD5, hT5⟩
      have H5 := Lib.hid (And.intro hD5 (below_turn HX.out.2.1 hT5 (by simp; exact HX.out.2.2) HX.out.2.1.size))
      clear hup hD5 hT5
      go_wp2_with fail
      go_ret
      exact ⟨d, rfl, H5.out.1, HX.out.2.2, H5.out.2⟩
end Go.Proofs.YtdgjjmaiibafhaaDoor
