/-
  bytes.Repeat of one byte.
  Modes: whole blocks taken through: blocks.
  bytes.Equal.
-/
import Derived.Test.YtiocmebcbhbcmaaZzAesQ
import Derived.Test.YtiocmebcbhbcmaaZzRegT
import Derived.Lib.MakeNoZero
import Derived.Test.YtiocmebcbhbcmaaZzReg
namespace Go.Proofs.Ytiocmebcbhbcmaa
set_option maxRecDepth 100000
open Go.RowKit

theorem mul64_one (n : Nat) (hn : n ≤ 64) (w : World) : Calls Try.prog 91 #[.int .u64 1, .int .u64 (n : Int)] w fun e w' => e = .returned (.tuple #[.int .u64 0, .int .u64 (n : Int)]) ∧ w = w' := by
  have b1 : bits .and .u64 1 4294967295 = 1 := by decide
  have b3 : bits .and .u64 0 4294967295 = 0 := by decide
  have b2 : bits .and .u64 (n : Int) 4294967295 = (n : Int) := by
    have h : ∀ k : Fin 65, bits .and .u64 ((k.1 : Nat) : Int) 4294967295 = ((k.1 : Nat) : Int) := by decide
    exact h ⟨n, by omega⟩
  have hz : (n : Int) / 4294967296 = 0 := by omega
  have w0 : IntKind.u64.wrap 0 = 0 := by decide
  go_enter Try.func91, Try.ntmps91
  go_wp2_with fail
  refine bodyPost_ret (results_tmp2 rfl _ _ _) rfl ?_
  exact ⟨rfl, rfl⟩
theorem mul_one_ (n : Nat) (hn : n ≤ 64) (w : World) : Calls Try.prog 82 #[.int .u64 1, .int .u64 (n : Int)] w fun e w' => e = .returned (.tuple #[.int .u64 0, .int .u64 (n : Int)]) ∧ w = w' := by
  have h := mul64_one n hn w
  go_enter Try.func82, Try.ntmps82
  go_wp2_with fail
  refine h.mono ?_
  rintro e w' ⟨rfl, rfl⟩
  go_wp2_with fail
  refine bodyPost_ret (results_tmp2 rfl _ _ _) rfl ?_
  exact ⟨rfl, rfl⟩
theorem run_mnz (w : World) (ps : Array TypeId) (n : Nat) (hn : n ≤ 281474976710656) :
    ∃ l : List UInt8, (Extern.BytealgMakeNoZero.makeNoZero ps #[22] #[.int .i64 n]).run Try.prog w = .ok (.slice (some ⟨w.heap.size, 0, none⟩) n l.length) (w.drew.drew.alloc (.cells (l.map B).toArray 5)) ∧ n ≤ l.length ∧ l.length ≤ maxLen := by
  have hdig : ∀ (n t : Nat) (acc : List UInt8), ∃ l : List UInt8, Extern.BytealgMakeNoZero.digits n t (acc.map B).toArray = (l.map B).toArray ∧ l.length = acc.length + n := by
    intro n
    induction n with
    | zero => intro t acc; exact ⟨acc, rfl, rfl⟩
    | succ n ih =>
      intro t acc
      obtain ⟨l, h1, h2⟩ := ih (t / 256) (acc ++ [UInt8.ofNat (t % 256)])
      refine ⟨l, ?_, by rw [h2]; simp; omega⟩
      rw [← h1, Extern.BytealgMakeNoZero.digits]
      congr 1
      rw [List.map_append, List.push_toArray]
      congr 1
      simp [B]
  have hdef : Extern.BytealgMakeNoZero.makeNoZero ps #[22] #[.int .i64 n] =
      (do
        let .slice elem ← underlying 22 | stuck "bytealg.MakeNoZero: slice type expected"
        if (n : Int) < 0 || (n : Int) > 2 ^ 48 then runtimePanic (.error "makeslice: len out of range")
        let cap ← choose (.appendCap (n : Int).toNat 0 elem)
        askRoom cap
        let bytes ← choose (.extern "internal/bytealg.MakeNoZero.bytes" 0)
        let a ← newRow elem (Extern.BytealgMakeNoZero.digits cap bytes #[])
        pure (.slice (some a) (n : Int).toNat cap)) := rfl
  obtain ⟨l, h1, h2⟩ := hdig (grownCap w n 0 5) ((Question.extern "internal/bytealg.MakeNoZero.bytes" 0).cut (w.tape (w.drawn + 1) (.extern "internal/bytealg.MakeNoZero.bytes" 0))) []
  have h3 : l.length = grownCap w n 0 5 := by rw [h2]; simp
  refine ⟨l, ?_, ?_, ?_⟩
  · rw [hdef, ← h1]
    have h1' : ¬ (n : Int) < 0 := by omega
    have h2' : ¬ (281474976710656 : Int) < (n : Int) := by omega
    simp [run_underlying Try.underlying22, h1', h2', Question.forced, newRow, grownCap, h3]
  · rw [h3]
    simpa using grownCap_ge w n 0 5
  · rw [h3]
    simpa using grownCap_le_maxLen w n 0 5 (by unfold maxLen; omega)
theorem mnz_call (w : World) (n : Nat) (hn : n ≤ 281474976710656) :
    ∃ l : List UInt8, (callFunc 83 #[.int .i64 (n : Int)]).run Try.prog w = .ok (.value (.slice (some ⟨w.heap.size, 0, none⟩) n l.length)) ((w.alloc (.cells (l.map B).toArray 5)).drewN 2) ∧ n ≤ l.length ∧ l.length ≤ maxLen := by
  obtain ⟨l, h1, h2, h3⟩ := run_mnz w #[3] n hn
  refine ⟨l, ?_, h2, h3⟩
  rw [run_callFunc_extern Try.func83 (by kernel_rfl) (by kernel_rfl) (by kernel_rfl) (e := Extern.BytealgMakeNoZero.makeNoZero #[3] #[22]) (by kernel_rfl), h1]
  rfl
theorem slice_all3 (A : Option Addr) (m c k : Nat) (hA : ∀ ad, A = some ad → ad.spot = none) (hk : k ≤ c) (w : World) : (Instr.slice 22 (.slice A m c) none (some (.int .i64 (k : Int))) (some (.int .i64 (k : Int)))).run Try.prog w = .ok (.slice A k k) w := by
  obtain ⟨i, hi, hz⟩ : ∃ i, Try.prog.info? 5 = some i ∧ i.size = 1 := by
    cases h : Try.prog.info? 5 with
    | none => have := sz8; rw [h] at this; cases this
    | some i => exact ⟨i, rfl, by have := sz8; rw [h] at this; simpa using this⟩
  unfold Instr.slice
  simp [Sem.run_bind, run_underlying Try.underlying22 w, Instr.sliceBounds, Instr.sliceBound, asIntOf, sizeOf, typeInfo, hi]
  rw [if_pos hk, addr_add0 A hA]
  simp
theorem Rd.recap {w : World} {ad : Addr} {m c c' : Nat} {l : List UInt8} (h : Rd w (some ad) m c l) (hm : m ≤ c') (hc : c' ≤ maxLen) : Rd w (some ad) m c' l := by
  obtain ⟨h1, _, _, ⟨h4, _⟩ | h4⟩ := h
  · cases h4
  · exact ⟨h1, hm, hc, .inr h4⟩
theorem run_rep (l : List UInt8) (x : UInt8) (n bp k : Nat) (hl : l.take bp = List.replicate bp x) (h1 : bp + k ≤ l.length) (hk : k ≤ bp) : (splice l bp (l.take k)).take (bp + k) = List.replicate (bp + k) x := by
  have hk2 : l.take k = List.replicate k x := by
    have h := congrArg (List.take k) hl
    rw [List.take_take, Nat.min_eq_left hk, List.take_replicate, Nat.min_eq_left hk] at h
    exact h
  unfold splice
  rw [hl, hk2, ← List.append_assoc, List.replicate_append_replicate, List.take_left' (by simp)]
theorem splice_lenR (l : List UInt8) (off : Nat) (cs : List UInt8) (h : off + cs.length ≤ l.length) : (splice l off cs).length = l.length := by
  unfold splice
  simp
  omega
set_option maxHeartbeats 1000000 in
theorem repeat_any (x : UInt8) (n : Nat) (h1 : 1 ≤ n) (hn : n ≤ 64) (A : Option Addr) (c : Nat) (w : World) (hr : Rd w A 1 c [x]) :
    Calls Try.prog 70 #[.slice A 1 c, .int .i64 (n : Int)] w fun e w' => ∃ g, e = .returned (.slice (some ⟨g, 0, none⟩) n n) ∧ Rd w' (some ⟨g, 0, none⟩) n n (List.replicate n x) ∧ w.heap.size ≤ g ∧ Old w w' := by
  obtain ⟨l, hcall, hnl, hlm⟩ := mnz_call w n (by omega)
  obtain ⟨L, hL⟩ : ∃ L, l.length = L := ⟨_, rfl⟩
  rw [hL] at hcall hnl hlm
  obtain ⟨w1, hw1⟩ : ∃ w1, ((w.alloc (.cells (l.map B).toArray 5)).drewN 2) = w1 := ⟨_, rfl⟩
  rw [hw1] at hcall
  obtain ⟨g, hg⟩ : ∃ g, w.heap.size = g := ⟨_, rfl⟩
  have hO1 : Own w1 g (.slice (some ⟨g, 0, none⟩) L L) l := by
    have : Own (w.alloc (.cells (l.map B).toArray 5)) w.heap.size (.slice (some ⟨w.heap.size, 0, none⟩) L L) l := by
      refine ⟨by simp, .inr ⟨w.heap.size, L, _, by rw [hL], Nat.le_refl _, Blk.new w 5 (l.map B).toArray, by rw [hL]; exact Nat.le_refl _, hlm, by simp [hL], ?_⟩⟩
      rw [List.take_of_length_le (by simp [hL])]
    rw [← hw1, ← hg]
    exact this
  have hb1 : Old w w1 := by rw [← hw1]; exact ((Old.refl w).alloc _).drewN 2
  rw [hg] at hcall
  have hs3 := slice_all3 (some ⟨g, 0, none⟩) n L n (fun ad h => by injection h with h; subst h; rfl) hnl
  have hmul := mul_one_ n hn w
  have H := Lib.hid (And.intro hO1 (And.intro hb1 (And.intro (hr.below hb1) (And.intro hL (And.intro hg hlm)))))
  have z0 : ¬ (n : Int) = 0 := by omega
  have z1 : ¬ (n : Int) < 0 := by omega
  have z2 : ¬ (8192 : Int) < n := by omega
  have z3 : ¬ (9223372036854775807 : Int) < n := by omega
  clear hO1 hb1 hr hL hw1 hg
  go_enter Try.func70, Try.ntmps70
  go_wp2_with fail
  refine hmul.mono ?_
  rintro e w' ⟨rfl, rfl⟩
  clear hmul
  have hmin : min 1 n = 1 := by omega
  go_wp2_with (refine wp_copyR rfl (.tmp 58) (.tmp 59) rfl g g L L 0 n n l H.out.1 rfl (by have := H.out.2.2.2.1; omega) A 1 c [x] rfl H.out.2.2.1 ?_; intro w2 hO2 hg2; have H2 := Lib.hid (And.intro hO2 hg2); clear hO2 hg2)
  have hb2 : Old w w2 := H.out.2.1.grown H2.out.2 H.out.2.1.size (fun k hk => by cases hk; rw [H.out.2.2.2.2.1]; exact Nat.le_refl _)
  have hO2 := H2.out.1
  have hsp : ([x] : List UInt8).take n = [x] := List.take_of_length_le (by simpa using h1)
  rw [hsp] at hO2
  have hl2 : (splice l 0 [x]).length = L := by rw [splice_lenR _ _ _ (by have := H.out.2.2.2.1; simp; omega)]; exact H.out.2.2.2.1
  have ht2 : (splice l 0 [x]).take 1 = List.replicate 1 x := by simp [splice]
  have H3 := Lib.hid (And.intro hO2 (And.intro hl2 (And.intro ht2 hb2)))
  clear hb2 hO2 hsp hl2 ht2 hmin hcall hs3
  go_loopw [10] (fun v wr => ∃ (bp : Nat) (l2 : List UInt8), v = .int .i64 (bp : Int) ∧ 1 ≤ bp ∧ bp ≤ n ∧ Own wr g (.slice (some ⟨g, 0, none⟩) L L) l2 ∧ l2.length = L ∧ l2.take bp = List.replicate bp x ∧ Old w wr) (fun v _ => n - (intOf v).toNat)
  case atStart => exact ⟨1, _, rfl, Nat.le_refl _, h1, H3.out.1, H3.out.2.1, H3.out.2.2.1, H3.out.2.2.2⟩
  case round =>
    obtain ⟨bp, l2, rfl, hbp, hbn, hO, hl2, ht, hb⟩ := hrel
    have HR := Lib.hid (And.intro hO (And.intro hl2 (And.intro ht hb)))
    clear hO hl2 ht hb
    by_cases hlt : bp < n
    · have hlti : (bp : Int) < n := by omega
      have hltd : decide ((bp : Int) < (n : Int)) = true := decide_eq_true hlti
      have hs1 : ∀ w, (Instr.slice 22 (.slice (some ⟨g, 0, none⟩) n n) (some (.int .i64 (bp : Int))) none none).run Try.prog w = .ok (.slice (some ⟨g, bp, none⟩) (n - bp) (n - bp)) w := fun w => by
        have := slice_from (some ⟨g, 0, none⟩) n n bp (by omega) w
        rw [if_neg (by omega)] at this
        have hb0 : ¬ bp = 0 := by omega
        simpa [Addr.add, hb0] using this
      have hs2 := slice_to (some ⟨g, 0, none⟩) n n bp (fun ad h => by injection h with h; subst h; rfl) (by omega)
      have hmn : min bp (n - bp) ≤ bp := Nat.min_le_left _ _
      obtain ⟨k, hk⟩ : ∃ k, min bp (n - bp) = k := ⟨_, rfl⟩
      have hk1 : 1 ≤ k := by omega
      have hkn : bp + k ≤ n := by omega
      have hwr : IntKind.i64.wrap ((bp : Int) + (k : Int)) = (bp : Int) + (k : Int) := IntWalk.i64_in _ (by omega)
      have HK := Lib.hid hk
      clear hmn hk
      go_wp2_with fail
      refine region_turnS [g] (by kernel_rfl) (fun wd hOd hHeld hSz => ?_)
      have HSz := Lib.hid hSz
      clear hSz
      refine takeL (i := 0) (v := ?_) rfl (by kernel_rfl) (by kernel_rfl) (by kernel_rfl) (fun _ _ _ h => h) (Or.inl ⟨by rfl, ?_⟩) hHeld ?_
      rotate_left
      focus (intro wq hSw; clear hSw; go_simp; try with_reducible rfl)
      try simp only [Act.put, List.setIfInBounds_toArray, List.set_cons_zero, List.set_cons_succ]
      refine takeL (i := 1) (v := ?_) rfl (by kernel_rfl) (by kernel_rfl) (by kernel_rfl) (fun _ _ _ h => h) (Or.inl ⟨by rfl, ?_⟩) hHeld ?_
      rotate_left
      focus (intro wq hSw; clear hSw; go_simp; try with_reducible rfl)
      try simp only [Act.put, List.setIfInBounds_toArray, List.set_cons_zero, List.set_cons_succ]
      refine takeL (i := 2) (v := ?_) rfl (by kernel_rfl) (by kernel_rfl) (by kernel_rfl) (fun _ _ _ h => h) (Or.inl ⟨by rfl, ?_⟩) hHeld ?_
      rotate_left
      focus (intro wq hSw; clear hSw; go_simp; try with_reducible rfl)
      try simp only [Act.put, List.setIfInBounds_toArray, List.set_cons_zero, List.set_cons_succ]
      refine takeL (i := 3) (v := ?_) rfl (by kernel_rfl) (by kernel_rfl) (by kernel_rfl) (fun _ _ _ h => h) (Or.inl ⟨by rfl, ?_⟩) hHeld ?_
      rotate_left
      focus (intro wq hSw; have hRun := hs1 wq; clear hSw; go_simp; try with_reducible rfl)
      try simp only [Act.put, List.setIfInBounds_toArray, List.set_cons_zero, List.set_cons_succ]
      refine takeL (i := 4) (v := ?_) rfl (by kernel_rfl) (by kernel_rfl) (by kernel_rfl) (fun _ _ _ h => h) (Or.inl ⟨by rfl, ?_⟩) hHeld ?_
      rotate_left
      focus (intro wq hSw; clear hSw; go_simp; try with_reducible rfl)
      try simp only [Act.put, List.setIfInBounds_toArray, List.set_cons_zero, List.set_cons_succ]
      refine takeL (i := 5) (v := ?_) rfl (by kernel_rfl) (by kernel_rfl) (by kernel_rfl) (fun _ _ _ h => h) (Or.inl ⟨by rfl, ?_⟩) hHeld ?_
      rotate_left
      focus (intro wq hSw; clear hSw; go_simp; try with_reducible rfl)
      try simp only [Act.put, List.setIfInBounds_toArray, List.set_cons_zero, List.set_cons_succ]
      refine takeL (i := 6) (v := ?_) rfl (by kernel_rfl) (by kernel_rfl) (by kernel_rfl) (fun _ _ _ h => h) (Or.inl ⟨by rfl, ?_⟩) hHeld ?_
      rotate_left
      focus (intro wq hSw; have hRun := hs2 wq; clear hSw; go_simp; try with_reducible rfl)
      try simp only [Act.put, List.setIfInBounds_toArray, List.set_cons_zero, List.set_cons_succ]
      refine wpAnyH_ready (rs := [7]) (by kernel_rfl) (by simp) ?_
      refine consL rfl (fun K hK => ?_) AllReadyH.nil
      refine step_copyR rfl (.tmp 70) (.tmp 73) rfl g g L L bp (n - bp) (n - bp) l2 ((show Own _ g _ l2 from HR.out.1.below hOd)) rfl (by have := HR.out.2.1; omega) (some ⟨g, 0, none⟩) bp n (l2.take bp) rfl (Rd.recap ((HR.out.1.below hOd).rd.front (by omega)) (by omega) (by unfold maxLen; omega)) (fun w4 hO4 hg4 => ?_)
      refine hK.out _ _ (hHeld.grown hg4 (fun k hk => .inl (by cases hk; simp))) (fun hHeld => ?_)
      clear hK K
      try simp only [Act.put, List.setIfInBounds_toArray, List.set_cons_zero, List.set_cons_succ]
      refine takeL (i := 8) (v := ?_) rfl (by kernel_rfl) (by kernel_rfl) (by kernel_rfl) (fun _ _ _ h => h) (Or.inl ⟨by rfl, ?_⟩) hHeld ?_
      rotate_left
      focus (intro wq hSw; have hk := HK.out; clear hSw; go_simp; try with_reducible rfl)
      try simp only [Act.put, List.setIfInBounds_toArray, List.set_cons_zero, List.set_cons_succ]
      refine takeL (i := 9) (v := ?_) rfl (by kernel_rfl) (by kernel_rfl) (by kernel_rfl) (fun _ _ _ h => h) (Or.inl ⟨by rfl, ?_⟩) hHeld ?_
      rotate_left
      focus (intro wq hSw; clear hSw; go_simp; try with_reducible rfl)
      try simp only [Act.put, List.setIfInBounds_toArray, List.set_cons_zero, List.set_cons_succ]
      refine wpAnyH_done (by kernel_rfl) ?_ _
      refine NoPanic.normal ?_
      try simp only [Exit.then]
      go_wp2_with fail
      go_roundw
      case measure => simp [intOf]; omega
      have hkk : (l2.take bp).take (n - bp) = l2.take k := by rw [List.take_take, Nat.min_comm, HK.out]
      have hsl : (splice l2 bp (l2.take k)).length = L := by
        rw [splice_lenR _ _ _ (by have := HR.out.2.1; simp; omega)]; exact HR.out.2.1
      rw [hkk] at hO4
      exact ⟨bp + k, _, by simp, by omega, hkn, hO4, hsl, run_rep l2 x n bp k HR.out.2.2.1 (by have := HR.out.2.1; omega) (by have := HK.out; omega), below_turn HR.out.2.2.2 hHeld (by have := H.out.2.2.2.2.1; simp; omega) HR.out.2.2.2.size⟩
    · obtain rfl : bp = n := by omega
      have hlti : ¬ (bp : Int) < bp := by omega
      have hltd : decide ((bp : Int) < (bp : Int)) = false := decide_eq_false hlti
      go_wp2_with fail
      go_ret
      refine ⟨g, rfl, ?_, by have := H.out.2.2.2.2.1; omega, HR.out.2.2.2⟩
      have := (HR.out.1.rd).front (k := bp) (by omega)
      rw [HR.out.2.2.1] at this
      exact this.recap (Nat.le_refl _) (by unfold maxLen; omega)
end Go.Proofs.Ytiocmebcbhbcmaa
namespace Go.Proofs.Ytiocmebcbhbcmaa
set_option maxRecDepth 100000
open Go.RowKit

/-- So many blocks, one behind the other. -/
def blkN (mode : Nat) (enc : Bool) (E D : List UInt8 → List UInt8) : Nat → List UInt8 → List UInt8 → List UInt8 × List UInt8
  | 0, iv, _ => ([], iv)
  | n + 1, iv, l => ((blkF mode enc E D iv (l.take 16)).1 ++ (blkN mode enc E D n (blkF mode enc E D iv (l.take 16)).2 (l.drop 16)).1, (blkN mode enc E D n (blkF mode enc E D iv (l.take 16)).2 (l.drop 16)).2)
theorem blkN_add (mode : Nat) (enc : Bool) (E D : List UInt8 → List UInt8) (b : Nat) : ∀ (a : Nat) (iv l : List UInt8),
    blkN mode enc E D (a + b) iv l = ((blkN mode enc E D a iv l).1 ++ (blkN mode enc E D b (blkN mode enc E D a iv l).2 (l.drop (16 * a))).1, (blkN mode enc E D b (blkN mode enc E D a iv l).2 (l.drop (16 * a))).2)
  | 0, iv, l => by simp [blkN]
  | a + 1, iv, l => by
    have ih := blkN_add mode enc E D b a (blkF mode enc E D iv (l.take 16)).2 (l.drop 16)
    rw [show a + 1 + b = a + b + 1 by omega]
    simp only [blkN]
    rw [ih]
    simp only [List.drop_drop, List.append_assoc]
    rw [show 16 + 16 * a = 16 * (a + 1) by omega]
theorem blkN_front (mode : Nat) (enc : Bool) (E D : List UInt8 → List UInt8) : ∀ (n : Nat) (iv l x : List UInt8), 16 * n ≤ l.length → blkN mode enc E D n iv (l ++ x) = blkN mode enc E D n iv l
  | 0, _, _, _, _ => rfl
  | n + 1, iv, l, x, h => by
    simp only [blkN]
    rw [List.take_append_of_le_length (by omega), List.drop_append_of_le_length (by omega), blkN_front mode enc E D n _ (l.drop 16) x (by rw [List.length_drop]; omega)]

/-- L's bytes end ahead of W's first one, where both lie in one block. -/
def Ahead (L : Option Addr) (nl : Nat) (W : Option Addr) (cw : Nat) : Prop := ∀ a b, L = some a → W = some b → a.block = b.block → cw = 0 ∨ a.off + nl ≤ b.off
theorem Ahead.none (nl : Nat) (W : Option Addr) (cw : Nat) : Ahead none nl W cw := fun a b h => by cases h
theorem OwnO.cut_ex {w : World} {base : Nat} {A : Option Addr} {m c : Nat} {l : List UInt8} (h : OwnO w base (.slice A m c) l) {k : Nat} (hk : k ≤ m) :
    ∃ A' n' c', n' = m - k ∧ (∀ w, (Instr.slice 22 (.slice A m c) (some (.int .i64 (k : Int))) none none).run Try.prog w = .ok (.slice A' n' c') w) ∧ OwnO w base (.slice A' n' c') (l.drop k) ∧ A'.map Addr.block = A.map Addr.block ∧
      (∀ L nl, Ahead L nl A c → 0 < k → Ahead L nl A' c') ∧ Ahead A k A' c' := by
  refine ⟨_, _, _, rfl, fun w => slice_from A m c k hk w, h.cut hk, ?_, fun L nl ha hk0 => ?_, ?_⟩
  · split
    · rfl
    · cases A <;> simp [Addr.add]
      split <;> rfl
  · have hc := h.rd.2.1
    intro a b e1 e2 e3
    by_cases hck : c = k
    · left; omega
    · rw [if_neg hck] at e2
      cases A with
      | none => cases e2
      | some ad =>
        have hs := h.rd.spot ad rfl
        obtain ⟨g, o, sp⟩ := ad
        simp only at hs
        subst hs
        simp only [Option.map_some, Addr.add_mid] at e2
        cases e2
        rcases ha a _ e1 rfl e3 with h1 | h1
        · omega
        · right; simp only at h1 ⊢; omega
  · intro a b e1 e2 e3
    by_cases hck : c = k
    · left; omega
    · rw [if_neg hck] at e2
      subst e1
      have hs := h.rd.spot a rfl
      obtain ⟨g, o, sp⟩ := a
      simp only at hs
      subst hs
      simp only [Option.map_some, Addr.add_mid] at e2
      cases e2
      right
      simp only
      omega
def waitLen (w : World) (d : Nat) : Nat := match w.cell? ⟨d, 4, none⟩ with
  | some (.slice _ n _) => n
  | _ => 0
theorem BkC.wl {w : World} {x : BX} {W L : Option Addr} {m cw nl cl : Nat} {last : List UInt8} (h : BkC w x W m cw L nl cl last) : waitLen w x.d = m := by
  unfold waitLen
  rw [h.c4]
/-- A stream of blocks with what waits. -/
structure BkW (w : World) (x : BX) (W : Option Addr) (m cw : Nat) (wait : List UInt8) (L : Option Addr) (nl cl : Nat) (last : List UInt8) : Prop where
  bkc : BkC w x W m cw L nl cl last
  wait : OwnO w 0 (.slice W m cw) wait
  ahead : Ahead L nl W cw
  sep : ∀ b, W = some b → b.block ≠ x.c ∧ b.block ≠ x.K ∧ b.block ≠ x.d
theorem BkW.below {w w' : World} {x : BX} {W L : Option Addr} {m cw nl cl : Nat} {wait last : List UInt8} (h : BkW w x W m cw wait L nl cl last) (hb : Old w w') : BkW w' x W m cw wait L nl cl last := ⟨h.bkc.below hb, h.wait.below hb, h.ahead, h.sep⟩
theorem BkW.drew {w : World} {x : BX} {W L : Option Addr} {m cw nl cl : Nat} {wait last : List UInt8} (h : BkW w x W m cw wait L nl cl last) : BkW w.drew x W m cw wait L nl cl last := h.below (Old.drew (Old.refl w))
/-- Where a row lies: with one of two, or anew. -/
def From (n : Nat) (L : Option Addr) (A B : Option Addr) : Prop := ∀ ad, L = some ad → (∃ a0, A = some a0 ∧ ad.block = a0.block) ∨ (∃ a0, B = some a0 ∧ ad.block = a0.block) ∨ n ≤ ad.block
/-- What stands between two rounds of blocks. -/
structure BI (w : World) (x : BX) (W0 L0 : Option Addr) (keep : Nat) (N : Nat) (tot : List UInt8 × List UInt8 × List UInt8) (wr : World) (A2 : Option Addr) (n2 c2 : Nat) (ob : List UInt8) (W : Option Addr) (m cw : Nat) (wait : List UInt8) (L : Option Addr) (nl cl : Nat) (last : List UInt8) : Prop where
  out : Own wr w.heap.size (.slice A2 n2 c2) ob
  bk : BkW wr x W m cw wait L nl cl last
  wb : W.map Addr.block = W0.map Addr.block
  lb : From w.heap.size L L0 W0
  lo : ∀ ad, L = some ad → (Value.slice A2 n2 c2).ownBlock ≠ some ad.block
  len : ob.length + m ≤ N
  turn : Turn [x.d] w wr
  tot : (ob ++ (blkN x.mode x.enc x.E x.D ((m - keep) / 16) last wait).1, (blkN x.mode x.enc x.E x.D ((m - keep) / 16) last wait).2, wait.drop (16 * ((m - keep) / 16))) = tot
theorem map_block {A B : Option Addr} (h : A.map Addr.block = B.map Addr.block) : ∀ ad, A = some ad → ∃ a0, B = some a0 ∧ ad.block = a0.block := by
  intro ad e
  subst e
  cases B with
  | none => cases h
  | some b => exact ⟨b, rfl, by simpa using h⟩
theorem NoRow.of_bk {w : World} {x : BX} {W L : Option Addr} {m cw nl cl : Nat} {last : List UInt8} (h : BkC w x W m cw L nl cl last) : NoRow w x.d := Blk.noRow h.blk (by decide)
theorem BI.next {w wr w1 w2 : World} {x : BX} {W0 L0 : Option Addr} {keep N : Nat} {tot : List UInt8 × List UInt8 × List UInt8} {A2 : Option Addr} {n2 c2 : Nat} {ob : List UInt8} {W : Option Addr} {m cw : Nat} {wait : List UInt8} {L : Option Addr} {nl cl : Nat} {last : List UInt8}
    (h : BI w x W0 L0 keep N tot wr A2 n2 c2 ob W m cw wait L nl cl last) (hW0 : ∀ ad, W0 = some ad → ad.block < w.heap.size) (hd : x.d < w.heap.size ∧ x.c < w.heap.size ∧ x.K < w.heap.size) (hm : 16 + keep ≤ m) {A' : Option Addr} {c' : Nat}
    (hb : BkRes wr x W m cw L nl cl last W 16 (wait.take 16) w1 A' c') {A5 : Option Addr} {n5 c5 : Nat} (hG : Grew w.heap.size w1 w2 (.slice A2 n2 c2) A5 n5 c5 (ob ++ (blkF x.mode x.enc x.E x.D last (wait.take 16)).1)) :
    ∃ W' m' cw' L' nl' cl', m' = m - 16 ∧ (∀ w, (Instr.slice 22 (.slice W m cw) (some (.int .i64 16)) none none).run Try.prog w = .ok (.slice W' m' cw') w) ∧ BkC w2 x W m cw L' nl' cl' (blkF x.mode x.enc x.E x.D last (wait.take 16)).2 ∧
      BI w x W0 L0 keep N tot (w2.setCell ⟨x.d, 4, none⟩ (.slice W' m' cw')) A5 n5 c5 (ob ++ (blkF x.mode x.enc x.E x.D last (wait.take 16)).1) W' m' cw' (wait.drop 16) L' nl' cl' (blkF x.mode x.enc x.E x.D last (wait.take 16)).2 := by
  obtain ⟨W', m', cw', hm', hs, ho, hbl, hah1, hah2⟩ := h.bk.wait.cut_ex (k := 16) (by omega)
  obtain ⟨L', nl', cl', hC, hL⟩ := hb.next
  have hml := h.bk.wait.rd.1
  have hwlt : ∀ ad, W = some ad → ad.block < w.heap.size := fun ad e => by
    obtain ⟨a0, e1, e2⟩ := map_block h.wb ad e
    rw [e2]; exact hW0 a0 e1
  have hwW : ∀ ad, W' = some ad → ∃ a0, W = some a0 ∧ ad.block = a0.block := map_block hbl
  -- the new last lies
  have hL2 : From w.heap.size L' L0 W0 := by
    intro ad e
    rcases hL with ⟨h1, _⟩ | h1 | ⟨h1, _⟩
    · exact h.lb ad (by rw [← h1]; exact e)
    · exact .inr (.inr (Nat.le_trans h.turn.size (h1 ad e)))
    · obtain ⟨a0, e1, e2⟩ := map_block h.wb ad (by rw [← h1]; exact e)
      exact .inr (.inl ⟨a0, e1, e2⟩)
  have hLo : ∀ ad, L' = some ad → (Value.slice A2 n2 c2).ownBlock ≠ some ad.block := by
    intro ad e e3
    have hlt := h.out.lt e3
    rcases hL with ⟨h1, _⟩ | h1 | ⟨h1, _⟩
    · exact h.lo ad (by rw [← h1]; exact e) e3
    · have := h1 ad e; omega
    · have := hwlt ad (by rw [← h1]; exact e); omega
  have hT1 := hb.turn
  have hT : Turn (Value.slice A2 n2 c2).ownBlock.toList w1 w2 := Turn.of_grown hG.grown
  have hX : ∀ g, g < w.heap.size → g ∉ (Value.slice A2 n2 c2).ownBlock.toList := fun g hg hm => by
    have := (h.out.lt (by simpa using hm)).1
    omega
  have hN := h.bk.bkc.noB
  have ho1 : OwnO w1 0 (.slice W' m' cw') (wait.drop 16) := ho.turn hT1 (fun ad e => by
    obtain ⟨a0, e1, e2⟩ := hwW ad e
    simp
    rw [e2]
    exact (h.bk.sep a0 e1).2.2)
  have ho2 : OwnO w2 0 (.slice W' m' cw') (wait.drop 16) := ho1.turn hT (fun ad e => by
    obtain ⟨a0, e1, e2⟩ := hwW ad e
    rw [e2]
    exact hX _ (hwlt a0 e1))
  have hC2 : BkC w2 x W m cw L' nl' cl' (blkF x.mode x.enc x.E x.D last (wait.take 16)).2 := ⟨hC.blk.turn hT (hX _ hd.1), hC.cip.turn hT (hX _ hd.2.1) (hX _ hd.2.2), hC.last.turn hT (fun ad e hm => hLo ad e (by simpa using hm)), hC.l16⟩
  have hT3 : Turn [x.d] w2 (w2.setCell ⟨x.d, 4, none⟩ (.slice W' m' cw')) := turn_put
  have hr2 : NoRow w2 x.d := NoRow.of_bk hC2
  refine ⟨W', m', cw', L', nl', cl', hm', fun w => hs w, hC2, ⟨hG.own.turn hT3 (fun g hg hm => (hG.own.notin hr2) (by simp at hm; rw [← hm]; exact hg)), ⟨hC2.put4 W' m' cw', ho2.turn hT3 (fun ad e => ?_), ?_, fun b e => ?_⟩, hbl.trans h.wb, hL2, fun ad e e3 => ?_, ?_, ?_, ?_⟩⟩
  · obtain ⟨a0, e1, e2⟩ := hwW ad e
    simp
    rw [e2]
    exact (h.bk.sep a0 e1).2.2
  · rcases hL with ⟨h1, h2⟩ | h1 | ⟨h1, h2⟩
    · rw [h1, h2]; exact hah1 _ _ h.bk.ahead (by omega)
    · intro a b e1 e2 e3
      have := h1 a e1
      obtain ⟨a0, e4, e5⟩ := hwW b e2
      have := hwlt a0 e4
      have := h.turn.size
      omega
    · rw [h1, h2]; exact hah2
  · obtain ⟨a0, e1, e2⟩ := hwW b e
    rw [e2]
    exact h.bk.sep a0 e1
  · rcases hG.at_ with h1 | h1
    · exact hLo ad e (h1.symm.trans e3)
    · rw [e3] at h1
      injection h1 with h1
      have := hC.last.lt ad e
      omega
  · have := h.len
    have h16 := hb.out.1
    rw [List.length_append, ← h16]
    omega
  · have hw : ∀ y ∈ [x.d], y ∈ [x.d] ∨ w.heap.size ≤ y := fun y hy => .inl hy
    exact ((h.turn.trans hT1 hw).trans hT (fun g hg => .inr (h.out.lt (by simpa using hg)).1)).trans hT3 hw
  · rw [← h.tot, show (m - keep) / 16 = (m' - keep) / 16 + 1 by omega]
    simp only [blkN, List.append_assoc, List.drop_drop]
    rw [show 16 + 16 * ((m' - keep) / 16) = 16 * ((m' - keep) / 16 + 1) by omega]
theorem BI.drew {w wr : World} {x : BX} {W0 L0 : Option Addr} {keep N : Nat} {tot : List UInt8 × List UInt8 × List UInt8} {A2 : Option Addr} {n2 c2 : Nat} {ob : List UInt8} {W : Option Addr} {m cw : Nat} {wait : List UInt8} {L : Option Addr} {nl cl : Nat} {last : List UInt8}
    (h : BI w x W0 L0 keep N tot wr A2 n2 c2 ob W m cw wait L nl cl last) : BI w x W0 L0 keep N tot wr.drew A2 n2 c2 ob W m cw wait L nl cl last := ⟨h.out, h.bk.drew, h.wb, h.lb, h.lo, h.len, h.turn.drew, h.tot⟩
set_option maxHeartbeats 2000000 in
theorem blocks_any (x : BX) (keep : Nat) (W : Option Addr) (m cw : Nat) (wait : List UInt8) (L : Option Addr) (nl cl : Nat) (last : List UInt8) (w : World) (h : BkW w x W m cw wait L nl cl last) (hk : keep ≤ 1) (hm : m ≤ 100000) :
    Calls Try.prog 43 #[.pointer (some ⟨x.d, 0, none⟩), .int .i64 (keep : Int)] w fun e w' => ∃ A' n' c' W' m' cw' L' nl' cl', e = .returned (.slice A' n' c') ∧ Own w' w.heap.size (.slice A' n' c') (blkN x.mode x.enc x.E x.D ((m - keep) / 16) last wait).1 ∧
      BkW w' x W' m' cw' (wait.drop (16 * ((m - keep) / 16))) L' nl' cl' (blkN x.mode x.enc x.E x.D ((m - keep) / 16) last wait).2 ∧ W'.map Addr.block = W.map Addr.block ∧ From w.heap.size L' L W ∧ Turn [x.d] w w' ∧ (∀ ad, L' = some ad → (Value.slice A' n' c').ownBlock ≠ some ad.block) ∧ n' ≤ m := by
  obtain ⟨tot, htot⟩ : ∃ tot, ((blkN x.mode x.enc x.E x.D ((m - keep) / 16) last wait).1, (blkN x.mode x.enc x.E x.D ((m - keep) / 16) last wait).2, wait.drop (16 * ((m - keep) / 16))) = tot := ⟨_, rfl⟩
  have hst : BI w x W L keep m tot w none 0 0 [] W m cw wait L nl cl last := ⟨Own.nil _ _, h, rfl, fun ad e => .inl ⟨ad, e, rfl⟩, fun ad _ => by simp [Value.ownBlock], by simp, Turn.refl _ _, by rw [List.nil_append]; exact htot⟩
  have hW0 : ∀ ad, W = some ad → ad.block < w.heap.size := fun ad e => h.wait.rd.lt ad e
  have hd : x.d < w.heap.size ∧ x.c < w.heap.size ∧ x.K < w.heap.size := ⟨h.bkc.blk.lt, h.bkc.cip.lt.1, h.bkc.cip.lt.2⟩
  have e1 := congrArg Prod.fst htot
  have e2 := congrArg (fun t => t.2.1) htot
  have e3 := congrArg (fun t => t.2.2) htot
  simp only at e1 e2 e3
  rw [e1, e2, e3]
  have hkw : IntKind.i64.wrap (16 + (keep : Int)) = 16 + (keep : Int) := IntWalk.i64_in _ (by omega)
  have HH := Lib.hid (And.intro hst (And.intro hW0 hd))
  clear hst hW0 hd htot e1 e2 e3 h
  go_enter Try.func43, Try.ntmps43
  go_wp2_with fail
  refine wp_scope_straight ?_
  go_wp2_with fail
  refine wp_label ?_
  go_wp2_with fail
  go_loopw [5] (fun vo wr => ∃ (A2 : Option Addr) (n2 c2 : Nat) (ob : List UInt8) (W1 : Option Addr) (m1 cw1 : Nat) (wait1 : List UInt8) (L1 : Option Addr) (nl1 cl1 : Nat) (last1 : List UInt8), vo = .slice A2 n2 c2 ∧ BI w x W L keep m tot wr A2 n2 c2 ob W1 m1 cw1 wait1 L1 nl1 cl1 last1) (fun _ wr => waitLen wr x.d)
  case atStart => exact ⟨none, 0, 0, [], W, m, cw, wait, L, nl, cl, last, rfl, HH.out.1⟩
  case round =>
    obtain ⟨A2, n2, c2, ob, W1, m1, cw1, wait1, L1, nl1, cl1, last1, rfl, hI⟩ := hrel
    have y4 := hI.bk.bkc.c4
    have hm1 : m1 ≤ 100000 := by have := hI.len; omega
    by_cases hlt : m1 < 16 + keep
    · have hlti : (m1 : Int) < 16 + keep := by omega
      have ht := hI.tot
      have hz : (m1 - keep) / 16 = 0 := by omega
      rw [hz] at ht
      simp only [blkN, List.append_nil, Nat.mul_zero, List.drop_zero] at ht
      have HX := Lib.hid (And.intro hI ht)
      clear hI ht hlt hz
      go_wp2_with fail
      try simp only [Exit.noGoto]
      go_ret
      refine ⟨A2, n2, c2, W1, m1, cw1, L1, nl1, cl1, rfl, ?_, ?_, HX.out.1.wb, HX.out.1.lb, HX.out.1.turn, HX.out.1.lo, by have := HX.out.1.len; have := HX.out.1.out.len; omega⟩
      · rw [← HX.out.2]; exact HX.out.1.out
      · rw [← HX.out.2]; exact HX.out.1.bk
    · have hlti : ¬ (m1 : Int) < 16 + keep := by omega
      have hge : 16 + keep ≤ m1 := by omega
      have hs3 := slice_all3 W1 m1 cw1 16 hI.bk.wait.rd.spot (by have := hI.bk.wait.rd.2.1; omega)
      have hr16 := hI.bk.wait.rd.front (k := 16) (by omega)
      have hr16' : Rd wr W1 16 16 (wait1.take 16) := ⟨hr16.1, Nat.le_refl _, by unfold maxLen; omega, by
        rcases hr16.2.2.2 with ⟨e1, e2⟩ | h9
        · have := hr16.2.1; omega
        · exact .inr h9⟩
      have hcall := block_any x W1 m1 cw1 L1 nl1 cl1 last1 W1 16 (wait1.take 16) wr hI.bk.bkc hr16'
      have hwl := hI.bk.bkc.wl
      have HX := Lib.hid (And.intro hI (And.intro hcall (And.intro hge hwl)))
      clear hI hr16 hr16' hcall hge hlt hwl
      rw [show ((16 : Nat) : Int) = 16 from rfl] at hs3
      go_wp2_with (first | (go_at_call 67; refine HX.out.2.1.mono ?_; rintro e w1 ⟨A', c', rfl, hres⟩; have HR := Lib.hid hres; clear hres) | (at_builtin; refine wp_app2 (.tmp 14) (.tmp 21) w.heap.size (.slice A2 n2 c2) ob (HX.out.1.out.turn HR.out.turn (fun g hg hm => (HX.out.1.out.notin (NoRow.of_bk HX.out.1.bk.bkc)) (by simp at hm; rw [← hm]; exact hg))) (Nat.le_trans HX.out.1.turn.size HR.out.turn.size) A' 16 c' _ HR.out.out (by have := HR.out.out.1; have := HX.out.1.len; omega) rfl rfl rfl rfl ?_; intro A5 n5 c5 w2 hn5 hG; obtain ⟨W', m', cw', L', nl', cl', hm', hs4, hC2, hnx⟩ := HX.out.1.next HH.out.2.1 HH.out.2.2 HX.out.2.2.1 HR.out hG; have z4 := hC2.c4; have f4 := hC2.frozen 4; have HY := Lib.hid (And.intro hnx hm'); clear hC2 hnx hm' hG))
      go_roundw
      case rel => exact ⟨_, _, _, _, _, _, _, _, _, _, _, _, rfl, HY.out.1⟩
      case measure =>
        rw [HX.out.2.2.2, HY.out.1.bk.bkc.wl, HY.out.2]
        have := HX.out.2.2.1
        omega
end Go.Proofs.Ytiocmebcbhbcmaa
namespace Go.Proofs.Ytiocmebcbhbcmaa
set_option maxRecDepth 100000
open Go.RowKit

theorem equalB_any (A : Option Addr) (m c : Nat) (A' : Option Addr) (m' c' : Nat) (l l' : List UInt8) (w : World) (hr : Rd w A m c l) (hr' : Rd w A' m' c' l') :
    Calls Try.prog 81 #[.slice A m c, .slice A' m' c'] w fun e w' => (e = .returned (.bool (decide (l = l')))) ∧ w = w' := by
  have s1 := hr.str
  have s2 := hr'.str
  clear hr hr'
  by_cases he : l = l'
  · rw [decide_eq_true he]
    subst he
    go_enter Try.func81, Try.ntmps81
    go_wp2
    go_ret
    exact ⟨by first | rfl | simp, rfl⟩
  · rw [decide_eq_false he]
    have hn : (⟨l.toArray⟩ : ByteArray) ≠ ⟨l'.toArray⟩ := fun e => he (by simpa using congrArg (fun b => b.data.toList) e)
    go_enter Try.func81, Try.ntmps81
    go_wp2
    go_ret
    exact ⟨by first | rfl | simp [he], rfl⟩
end Go.Proofs.Ytiocmebcbhbcmaa
