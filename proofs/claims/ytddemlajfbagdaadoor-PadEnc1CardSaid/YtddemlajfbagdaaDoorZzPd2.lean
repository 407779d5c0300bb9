/-
  bytes.Repeat of one byte.
  Pad: DigestInfo, the first padding of signatures.
-/
import Derived.Test.YtddemlajfbagdaaDoorZzRot
import Derived.Test.YtddemlajfbagdaaDoorZzRegT
import Derived.Lib.MakeNoZero
import Derived.Lib.ConvBytes
import Derived.Deep.Cut
namespace Go.Proofs.YtddemlajfbagdaaDoor
set_option maxRecDepth 100000
open Go.RowKit

theorem mul64_one (n : Nat) (hn : n ≤ 255) (w : World) : Calls Tryd.prog 63 #[.int .u64 1, .int .u64 (n : Int)] w fun e w' => e = .returned (.tuple #[.int .u64 0, .int .u64 (n : Int)]) ∧ w = w' := by
  have b1 : bits .and .u64 1 4294967295 = 1 := by decide
  have b3 : bits .and .u64 0 4294967295 = 0 := by decide
  have b2 : bits .and .u64 (n : Int) 4294967295 = (n : Int) := by
    have h : ∀ k : Fin 256, bits .and .u64 ((k.1 : Nat) : Int) 4294967295 = ((k.1 : Nat) : Int) := by decide
    exact h ⟨n, by omega⟩
  have hz : (n : Int) / 4294967296 = 0 := by omega
  have w0 : IntKind.u64.wrap 0 = 0 := by decide
  go_enter Tryd.func63, Tryd.ntmps63
  go_wp2_with fail
  refine bodyPost_ret (results_tmp2 rfl _ _ _) rfl ?_
  exact ⟨rfl, rfl⟩
theorem mul_one_ (n : Nat) (hn : n ≤ 255) (w : World) : Calls Tryd.prog 47 #[.int .u64 1, .int .u64 (n : Int)] w fun e w' => e = .returned (.tuple #[.int .u64 0, .int .u64 (n : Int)]) ∧ w = w' := by
  have h := mul64_one n hn w
  go_enter Tryd.func47, Tryd.ntmps47
  go_wp2_with fail
  refine h.mono ?_
  rintro e w' ⟨rfl, rfl⟩
  go_wp2_with fail
  refine bodyPost_ret (results_tmp2 rfl _ _ _) rfl ?_
  exact ⟨rfl, rfl⟩
theorem run_mnz (w : World) (ps : Array TypeId) (n : Nat) (hn : n ≤ 281474976710656) :
    ∃ l : List UInt8, (Extern.BytealgMakeNoZero.makeNoZero ps #[22] #[.int .i64 n]).run Tryd.prog w = .ok (.slice (some ⟨w.heap.size, 0, none⟩) n l.length) (w.drew.drew.alloc (.cells (l.map B).toArray 5)) ∧ n ≤ l.length ∧ l.length ≤ maxLen := by
  have hdig : ∀ (n t : Nat) (acc : List UInt8), ∃ l : List UInt8, Extern.BytealgMakeNoZero.digits n t (acc.map B).toArray = (l.map B).toArray ∧ l.length = acc.length + n := by
    intro n
    induction n with
    | zero => intro t acc; exact ⟨acc, rfl, rfl⟩
    | succ n ih =>
      intro t acc
      obtain ⟨l, h1, h2⟩ := ih (t / 256) (acc ++ [UInt8.ofNat (t % 256)])
      refine ⟨l, ?_, by rw [h2]; simp; omega⟩
      rw [← h1, Extern.BytealgMakeNoZero.digits]
      congr 1
      rw [List.map_append, List.push_toArray]
      congr 1
      simp [B]
  have hdef : Extern.BytealgMakeNoZero.makeNoZero ps #[22] #[.int .i64 n] =
      (do
        let .slice elem ← underlying 22 | stuck "bytealg.MakeNoZero: slice type expected"
        if (n : Int) < 0 || (n : Int) > 2 ^ 48 then runtimePanic (.error "makeslice: len out of range")
        let cap ← choose (.appendCap (n : Int).toNat 0 elem)
        askRoom cap
        let bytes ← choose (.extern "internal/bytealg.MakeNoZero.bytes" 0)
        let a ← newRow elem (Extern.BytealgMakeNoZero.digits cap bytes #[])
        pure (.slice (some a) (n : Int).toNat cap)) := rfl
  obtain ⟨l, h1, h2⟩ := hdig (grownCap w n 0 5) ((Question.extern "internal/bytealg.MakeNoZero.bytes" 0).cut (w.tape (w.drawn + 1) (.extern "internal/bytealg.MakeNoZero.bytes" 0))) []
  have h3 : l.length = grownCap w n 0 5 := by rw [h2]; simp
  refine ⟨l, ?_, ?_, ?_⟩
  · rw [hdef, ← h1]
    have h1' : ¬ (n : Int) < 0 := by omega
    have h2' : ¬ (281474976710656 : Int) < (n : Int) := by omega
    simp [run_underlying Tryd.underlying22, h1', h2', Question.forced, newRow, grownCap, h3]
  · rw [h3]
    simpa using grownCap_ge w n 0 5
  · rw [h3]
    simpa using grownCap_le_maxLen w n 0 5 (by unfold maxLen; omega)
theorem mnz_call (w : World) (n : Nat) (hn : n ≤ 281474976710656) :
    ∃ l : List UInt8, (callFunc 48 #[.int .i64 (n : Int)]).run Tryd.prog w = .ok (.value (.slice (some ⟨w.heap.size, 0, none⟩) n l.length)) ((w.alloc (.cells (l.map B).toArray 5)).drewN 2) ∧ n ≤ l.length ∧ l.length ≤ maxLen := by
  obtain ⟨l, h1, h2, h3⟩ := run_mnz w #[3] n hn
  refine ⟨l, ?_, h2, h3⟩
  rw [run_callFunc_extern Tryd.func48 (by kernel_rfl) (by kernel_rfl) (by kernel_rfl) (e := Extern.BytealgMakeNoZero.makeNoZero #[3] #[22]) (by kernel_rfl), h1]
  rfl
theorem slice_all3 (A : Option Addr) (m c k : Nat) (hA : ∀ ad, A = some ad → ad.spot = none) (hk : k ≤ c) (w : World) : (Instr.slice 22 (.slice A m c) none (some (.int .i64 (k : Int))) (some (.int .i64 (k : Int)))).run Tryd.prog w = .ok (.slice A k k) w := by
  obtain ⟨i, hi, hz⟩ : ∃ i, Tryd.prog.info? 5 = some i ∧ i.size = 1 := by
    cases h : Tryd.prog.info? 5 with
    | none => have := sz8; rw [h] at this; cases this
    | some i => exact ⟨i, rfl, by have := sz8; rw [h] at this; simpa using this⟩
  unfold Instr.slice
  simp [Sem.run_bind, run_underlying Tryd.underlying22 w, Instr.sliceBounds, Instr.sliceBound, asIntOf, sizeOf, typeInfo, hi]
  rw [if_pos hk, addr_add0 A hA]
  simp
theorem Rd.recap {w : World} {ad : Addr} {m c c' : Nat} {l : List UInt8} (h : Rd w (some ad) m c l) (hm : m ≤ c') (hc : c' ≤ maxLen) : Rd w (some ad) m c' l := by
  obtain ⟨h1, _, _, ⟨h4, _⟩ | h4⟩ := h
  · cases h4
  · exact ⟨h1, hm, hc, .inr h4⟩
theorem run_rep (l : List UInt8) (x : UInt8) (n bp k : Nat) (hl : l.take bp = List.replicate bp x) (h1 : bp + k ≤ l.length) (hk : k ≤ bp) : (splice l bp (l.take k)).take (bp + k) = List.replicate (bp + k) x := by
  have hk2 : l.take k = List.replicate k x := by
    have h := congrArg (List.take k) hl
    rw [List.take_take, Nat.min_eq_left hk, List.take_replicate, Nat.min_eq_left hk] at h
    exact h
  unfold splice
  rw [hl, hk2, ← List.append_assoc, List.replicate_append_replicate, List.take_left' (by simp)]
theorem splice_lenR (l : List UInt8) (off : Nat) (cs : List UInt8) (h : off + cs.length ≤ l.length) : (splice l off cs).length = l.length := by
  unfold splice
  simp
  omega
set_option maxHeartbeats 1000000 in
theorem repeat_any (x : UInt8) (n : Nat) (h1 : 1 ≤ n) (hn : n ≤ 255) (A : Option Addr) (c : Nat) (w : World) (hr : Rd w A 1 c [x]) :
    Calls Tryd.prog 33 #[.slice A 1 c, .int .i64 (n : Int)] w fun e w' => ∃ g, e = .returned (.slice (some ⟨g, 0, none⟩) n n) ∧ Rd w' (some ⟨g, 0, none⟩) n n (List.replicate n x) ∧ w.heap.size ≤ g ∧ Old w w' := by
  obtain ⟨l, hcall, hnl, hlm⟩ := mnz_call w n (by omega)
  obtain ⟨L, hL⟩ : ∃ L, l.length = L := ⟨_, rfl⟩
  rw [hL] at hcall hnl hlm
  obtain ⟨w1, hw1⟩ : ∃ w1, ((w.alloc (.cells (l.map B).toArray 5)).drewN 2) = w1 := ⟨_, rfl⟩
  rw [hw1] at hcall
  obtain ⟨g, hg⟩ : ∃ g, w.heap.size = g := ⟨_, rfl⟩
  have hO1 : Own w1 g (.slice (some ⟨g, 0, none⟩) L L) l := by
    have : Own (w.alloc (.cells (l.map B).toArray 5)) w.heap.size (.slice (some ⟨w.heap.size, 0, none⟩) L L) l := by
      refine ⟨by simp, .inr ⟨w.heap.size, L, _, by rw [hL], Nat.le_refl _, Blk.new w 5 (l.map B).toArray, by rw [hL]; exact Nat.le_refl _, hlm, by simp [hL], ?_⟩⟩
      rw [List.take_of_length_le (by simp [hL])]
    rw [← hw1, ← hg]
    exact this
  have hb1 : Old w w1 := by rw [← hw1]; exact ((Old.refl w).alloc _).drewN 2
  rw [hg] at hcall
  have hs3 := slice_all3 (some ⟨g, 0, none⟩) n L n (fun ad h => by injection h with h; subst h; rfl) hnl
  have hmul := mul_one_ n hn w
  have H := Lib.hid (And.intro hO1 (And.intro hb1 (And.intro (hr.below hb1) (And.intro hL (And.intro hg hlm)))))
  have z0 : ¬ (n : Int) = 0 := by omega
  have z1 : ¬ (n : Int) < 0 := by omega
  have z2 : ¬ (8192 : Int) < n := by omega
  have z3 : ¬ (9223372036854775807 : Int) < n := by omega
  clear hO1 hb1 hr hL hw1 hg
  go_enter Tryd.func33, Tryd.ntmps33
  go_wp2_with fail
  refine hmul.mono ?_
  rintro e w' ⟨rfl, rfl⟩
  clear hmul
  have hmin : min 1 n = 1 := by omega
  go_wp2_with (refine wp_copyR rfl (.tmp 58) (.tmp 59) rfl g g L L 0 n n l H.out.1 rfl (by have := H.out.2.2.2.1; omega) A 1 c [x] rfl H.out.2.2.1 ?_; intro w2 hO2 hg2; have H2 := Lib.hid (And.intro hO2 hg2); clear hO2 hg2)
  have hb2 : Old w w2 := H.out.2.1.grown H2.out.2 H.out.2.1.size (fun k hk => by cases hk; rw [H.out.2.2.2.2.1]; exact Nat.le_refl _)
  have hO2 := H2.out.1
  have hsp : ([x] : List UInt8).take n = [x] := List.take_of_length_le (by simpa using h1)
  rw [hsp] at hO2
  have hl2 : (splice l 0 [x]).length = L := by rw [splice_lenR _ _ _ (by have := H.out.2.2.2.1; simp; omega)]; exact H.out.2.2.2.1
  have ht2 : (splice l 0 [x]).take 1 = List.replicate 1 x := by simp [splice]
  have H3 := Lib.hid (And.intro hO2 (And.intro hl2 (And.intro ht2 hb2)))
  clear hb2 hO2 hsp hl2 ht2 hmin hcall hs3
  go_loopw [10] (fun v wr => ∃ (bp : Nat) (l2 : List UInt8), v = .int .i64 (bp : Int) ∧ 1 ≤ bp ∧ bp ≤ n ∧ Own wr g (.slice (some ⟨g, 0, none⟩) L L) l2 ∧ l2.length = L ∧ l2.take bp = List.replicate bp x ∧ Old w wr) (fun v _ => n - (intOf v).toNat)
  case atStart => exact ⟨1, _, rfl, Nat.le_refl _, h1, H3.out.1, H3.out.2.1, H3.out.2.2.1, H3.out.2.2.2⟩
  case round =>
    obtain ⟨bp, l2, rfl, hbp, hbn, hO, hl2, ht, hb⟩ := hrel
    have HR := Lib.hid (And.intro hO (And.intro hl2 (And.intro ht hb)))
    clear hO hl2 ht hb
    by_cases hlt : bp < n
    · have hlti : (bp : Int) < n := by omega
      have hltd : decide ((bp : Int) < (n : Int)) = true := decide_eq_true hlti
      have hs1 : ∀ w, (Instr.slice 22 (.slice (some ⟨g, 0, none⟩) n n) (some (.int .i64 (bp : Int))) none none).run Tryd.prog w = .ok (.slice (some ⟨g, bp, none⟩) (n - bp) (n - bp)) w := fun w => by
        have := slice_from (some ⟨g, 0, none⟩) n n bp (by omega) w
        rw [if_neg (by omega)] at this
        have hb0 : ¬ bp = 0 := by omega
        simpa [Addr.add, hb0] using this
      have hs2 := slice_to (some ⟨g, 0, none⟩) n n bp (fun ad h => by injection h with h; subst h; rfl) (by omega)
      have hmn : min bp (n - bp) ≤ bp := Nat.min_le_left _ _
      obtain ⟨k, hk⟩ : ∃ k, min bp (n - bp) = k := ⟨_, rfl⟩
      have hk1 : 1 ≤ k := by omega
      have hkn : bp + k ≤ n := by omega
      have hwr : IntKind.i64.wrap ((bp : Int) + (k : Int)) = (bp : Int) + (k : Int) := IntWalk.i64_in _ (by omega)
      have HK := Lib.hid hk
      clear hmn hk
      go_wp2_with fail
      refine region_turnS [g] (by kernel_rfl) (fun wd hOd hHeld hSz => ?_)
      have HSz := Lib.hid hSz
      clear hSz
      refine takeL (i := 0) (v := ?_) rfl (by kernel_rfl) (by kernel_rfl) (by kernel_rfl) (fun _ _ _ h => h) (Or.inl ⟨by rfl, ?_⟩) hHeld ?_
      rotate_left
      focus (intro wq hSw; clear hSw; go_simp; try with_reducible rfl)
      try simp only [Act.put, List.setIfInBounds_toArray, List.set_cons_zero, List.set_cons_succ]
      refine takeL (i := 1) (v := ?_) rfl (by kernel_rfl) (by kernel_rfl) (by kernel_rfl) (fun _ _ _ h => h) (Or.inl ⟨by rfl, ?_⟩) hHeld ?_
      rotate_left
      focus (intro wq hSw; clear hSw; go_simp; try with_reducible rfl)
      try simp only [Act.put, List.setIfInBounds_toArray, List.set_cons_zero, List.set_cons_succ]
      refine takeL (i := 2) (v := ?_) rfl (by kernel_rfl) (by kernel_rfl) (by kernel_rfl) (fun _ _ _ h => h) (Or.inl ⟨by rfl, ?_⟩) hHeld ?_
      rotate_left
      focus (intro wq hSw; clear hSw; go_simp; try with_reducible rfl)
      try simp only [Act.put, List.setIfInBounds_toArray, List.set_cons_zero, List.set_cons_succ]
      refine takeL (i := 3) (v := ?_) rfl (by kernel_rfl) (by kernel_rfl) (by kernel_rfl) (fun _ _ _ h => h) (Or.inl ⟨by rfl, ?_⟩) hHeld ?_
      rotate_left
      focus (intro wq hSw; have hRun := hs1 wq; clear hSw; go_simp; try with_reducible rfl)
      try simp only [Act.put, List.setIfInBounds_toArray, List.set_cons_zero, List.set_cons_succ]
      refine takeL (i := 4) (v := ?_) rfl (by kernel_rfl) (by kernel_rfl) (by kernel_rfl) (fun _ _ _ h => h) (Or.inl ⟨by rfl, ?_⟩) hHeld ?_
      rotate_left
      focus (intro wq hSw; clear hSw; go_simp; try with_reducible rfl)
      try simp only [Act.put, List.setIfInBounds_toArray, List.set_cons_zero, List.set_cons_succ]
      refine takeL (i := 5) (v := ?_) rfl (by kernel_rfl) (by kernel_rfl) (by kernel_rfl) (fun _ _ _ h => h) (Or.inl ⟨by rfl, ?_⟩) hHeld ?_
      rotate_left
      focus (intro wq hSw; clear hSw; go_simp; try with_reducible rfl)
      try simp only [Act.put, List.setIfInBounds_toArray, List.set_cons_zero, List.set_cons_succ]
      refine takeL (i := 6) (v := ?_) rfl (by kernel_rfl) (by kernel_rfl) (by kernel_rfl) (fun _ _ _ h => h) (Or.inl ⟨by rfl, ?_⟩) hHeld ?_
      rotate_left
      focus (intro wq hSw; have hRun := hs2 wq; clear hSw; go_simp; try with_reducible rfl)
      try simp only [Act.put, List.setIfInBounds_toArray, List.set_cons_zero, List.set_cons_succ]
      refine wpAnyH_ready (rs := [7]) (by kernel_rfl) (by simp) ?_
      refine consL rfl (fun K hK => ?_) AllReadyH.nil
      refine step_copyR rfl (.tmp 70) (.tmp 73) rfl g g L L bp (n - bp) (n - bp) l2 ((show Own _ g _ l2 from HR.out.1.below hOd)) rfl (by have := HR.out.2.1; omega) (some ⟨g, 0, none⟩) bp n (l2.take bp) rfl (Rd.recap ((HR.out.1.below hOd).rd.front (by omega)) (by omega) (by unfold maxLen; omega)) (fun w4 hO4 hg4 => ?_)
      refine hK.out _ _ (hHeld.grown hg4 (fun k hk => .inl (by cases hk; simp))) (fun hHeld => ?_)
      clear hK K
      try simp only [Act.put, List.setIfInBounds_toArray, List.set_cons_zero, List.set_cons_succ]
      refine takeL (i := 8) (v := ?_) rfl (by kernel_rfl) (by kernel_rfl) (by kernel_rfl) (fun _ _ _ h => h) (Or.inl ⟨by rfl, ?_⟩) hHeld ?_
      rotate_left
      focus (intro wq hSw; have hk := HK.out; clear hSw; go_simp; try with_reducible rfl)
      try simp only [Act.put, List.setIfInBounds_toArray, List.set_cons_zero, List.set_cons_succ]
      refine takeL (i := 9) (v := ?_) rfl (by kernel_rfl) (by kernel_rfl) (by kernel_rfl) (fun _ _ _ h => h) (Or.inl ⟨by rfl, ?_⟩) hHeld ?_
      rotate_left
      focus (intro wq hSw; clear hSw; go_simp; try with_reducible rfl)
      try simp only [Act.put, List.setIfInBounds_toArray, List.set_cons_zero, List.set_cons_succ]
      refine wpAnyH_done (by kernel_rfl) ?_ _
      refine NoPanic.normal ?_
      try simp only [Exit.then]
      go_wp2_with fail
      go_roundw
      case measure => simp [intOf]; omega
      have hkk : (l2.take bp).take (n - bp) = l2.take k := by rw [List.take_take, Nat.min_comm, HK.out]
      have hsl : (splice l2 bp (l2.take k)).length = L := by
        rw [splice_lenR _ _ _ (by have := HR.out.2.1; simp; omega)]; exact HR.out.2.1
      rw [hkk] at hO4
      exact ⟨bp + k, _, by simp, by omega, hkn, hO4, hsl, run_rep l2 x n bp k HR.out.2.2.1 (by have := HR.out.2.1; omega) (by have := HK.out; omega), below_turn HR.out.2.2.2 hHeld (by have := H.out.2.2.2.2.1; simp; omega) HR.out.2.2.2.size⟩
    · obtain rfl : bp = n := by omega
      have hlti : ¬ (bp : Int) < bp := by omega
      have hltd : decide ((bp : Int) < (bp : Int)) = false := decide_eq_false hlti
      go_wp2_with fail
      go_ret
      refine ⟨g, rfl, ?_, by have := H.out.2.2.2.2.1; omega, HR.out.2.2.2⟩
      have := (HR.out.1.rd).front (k := bp) (by omega)
      rw [HR.out.2.2.1] at this
      exact this.recap (Nat.le_refl _) (by unfold maxLen; omega)
end Go.Proofs.YtddemlajfbagdaaDoor
namespace Go.Proofs.YtddemlajfbagdaaDoor
set_option maxRecDepth 100000
open Go.RowKit

def infoF (kind : Int) (t : List UInt8) : List UInt8 × Bool := if hsize kind = 0 ∨ (t.length : Int) ≠ hsize kind then ([], false) else (infoB kind t, true)
/-- A row and an answer. -/
def PRes (w : World) (r : List UInt8 × Int) (e : Ending) (w' : World) : Prop := ∃ A n c, e = .returned (.tuple #[.slice A n c, .int .i64 r.2]) ∧ Rd w' A n c r.1 ∧ Old w w'
def InfRes (w : World) (r : List UInt8 × Bool) (e : Ending) (w' : World) : Prop := ∃ A n c, e = .returned (.tuple #[.slice A n c, .bool r.2]) ∧ Rd w' A n c r.1 ∧ Old w w'
theorem oidB_len (kind : Int) : (oidB kind).length ≤ 9 := by
  unfold oidB
  repeat (split; decide)
  decide
theorem hsize_64 (kind : Int) : 0 ≤ hsize kind ∧ hsize kind ≤ 64 := by
  unfold hsize
  repeat (split; decide)
  decide
theorem mk_app (a b : List UInt8) : (⟨a.toArray⟩ ++ ⟨b.toArray⟩ : ByteArray) = ⟨(a ++ b).toArray⟩ := ByteArray.mk_append_mk ..
theorem str_to_bytes (l : List UInt8) (hl : l.length ≤ 1000000) (w : World) : ∃ c w', (convert 9 22 (.string ⟨l.toArray⟩)).run Tryd.prog w = .ok (.slice (some ⟨w.heap.size, 0, none⟩) l.length c) w' ∧ Rd w' (some ⟨w.heap.size, 0, none⟩) l.length c l ∧ Old w w' := by
  have hsz : (⟨l.toArray⟩ : ByteArray).size = l.length := by simp [ByteArray.size]
  have hc := grownCap_le_maxLen w l.length 0 5 (by unfold maxLen; omega)
  have hg := grownCap_ge w l.length 0 5
  have hrun := Lib.run_convert_string_bytes (P := Tryd.prog) w 9 22 5 ⟨l.toArray⟩ Tryd.underlying9 Tryd.underlying22 Tryd.underlying5
  rw [hsz] at hrun
  refine ⟨_, _, hrun, ⟨rfl, by omega, hc, .inr ⟨w.heap.size, 0, rfl, ?_, fun k x hk => ?_⟩⟩, ⟨rfl, rfl, rfl, ?_, fun k hk => Lib.bytesWorld_at_old w _ _ k hk⟩⟩
  · rw [Lib.bytesWorld_size]; omega
  · have hlt : k < l.length := (List.getElem?_eq_some_iff.1 hk).1
    rw [Nat.zero_add, Lib.bytesWorld_cell w _ _ k (by rw [hsz]; exact hlt)]
    have : (l.toArray.toList).getD k 0 = x := by simp [List.getD, hk]
    rw [this]
    rfl
  · rw [Lib.bytesWorld_size]; omega
theorem own_new (w : World) (l : List UInt8) (cs : Array Value) (n : Nat) (hcs : cs = (l.map B).toArray) (hn : n = l.length) (hl : l.length ≤ 1000) : Own (w.alloc (.cells cs 5)) w.heap.size (.slice (some ⟨w.heap.size, 0, none⟩) n n) l := by
  subst hcs hn
  refine ⟨by simp, .inr ⟨w.heap.size, l.length, _, rfl, Nat.le_refl _, Blk.new w 5 (l.map B).toArray, Nat.le_refl _, by unfold maxLen; omega, by simp, ?_⟩⟩
  rw [List.take_of_length_le (by simp)]
set_option maxHeartbeats 4000000 in
theorem info_any (kind : Int) (A : Option Addr) (m c : Nat) (t : List UInt8) (w : World) (ht : Rd w A m c t) :
    Calls Tryd.prog 12 #[.int .i64 kind, .slice A m c] w (InfRes w (infoF kind t)) := by
  have hml := ht.1
  obtain ⟨hs, hhs⟩ : ∃ h, hsize kind = h := ⟨_, rfl⟩
  have hsz := fun W => size_any kind W
  have h64 := hsize_64 kind
  simp only [hhs] at hsz h64
  have HS := Lib.hid hsz
  clear hsz
  unfold infoF
  rw [hhs, ← hml]
  by_cases h0 : hs = 0
  · subst h0
    rw [if_pos (.inl rfl)]
    clear ht hml
    go_enter Tryd.func12, Tryd.ntmps12
    go_wp2_with fail
    refine (HS.out _).mono ?_
    rintro e w' ⟨rfl, rfl⟩
    go_wp2_with fail
    refine bodyPost_ret (results_tmp2 rfl _ _ _) rfl ?_
    exact ⟨none, 0, 0, rfl, Rd.nil _, Old.refl _⟩
  · have hb0 : (hs == 0) = false := by simpa using h0
    by_cases h1 : (m : Int) = hs
    · rw [if_neg (fun h => h.elim h0 (fun h => h h1))]
      have hbn : ((m : Int) != hs) = false := by simpa using h1
      have ho9 := oidB_len kind
      obtain ⟨ob, hob⟩ : ∃ o, oidB kind = o := ⟨_, rfl⟩
      have hoid := fun W => oid_any kind W
      simp only [hob] at hoid
      have hib : infoB kind t = heldB 0x30 (heldB 0x30 (heldB 6 ob ++ heldB 5 []) ++ heldB 4 t) := by unfold infoB; rw [hob]
      rw [hib]
      rw [hob] at ho9
      have l6 : (heldB 6 ob).length = ob.length + 2 := rfl
      have l5 : heldB 5 [] = [5, 0] := rfl
      have l4 : (heldB 4 t).length = t.length + 2 := rfl
      rw [l5]
      have lx : (heldB 0x30 (heldB 6 ob ++ [5, 0])).length = ob.length + 6 := by show ((heldB 6 ob ++ [5, 0]).length + 2) = _; rw [List.length_append, l6]; rfl
      obtain ⟨x6, hx6⟩ : ∃ x, heldB 6 ob = x := ⟨_, rfl⟩
      rw [hx6] at l6 lx ⊢
      obtain ⟨x30, hx30⟩ : ∃ x, heldB 0x30 (x6 ++ [5, 0]) = x := ⟨_, rfl⟩
      rw [hx30] at lx ⊢
      obtain ⟨x4, hx4⟩ : ∃ x, heldB 4 t = x := ⟨_, rfl⟩
      rw [hx4] at l4 ⊢
      have p6 := fun W => held_any 6 ob (by omega) W
      have p5 := fun W => held_any 5 [] (by simp) W
      have p30 := fun W => held_any 0x30 (x6 ++ [5, 0]) (by simp only [List.length_append, List.length_cons, List.length_nil]; omega) W
      have p4 := fun W => held_any 4 t (by omega) W
      have p31 := fun W => held_any 0x30 (x30 ++ x4) (by rw [List.length_append]; omega) W
      simp only [hx6, l5, hx30, hx4] at p6 p5 p30 p4 p31
      obtain ⟨T, hT⟩ : ∃ T, heldB 0x30 (x30 ++ x4) = T := ⟨_, rfl⟩
      simp only [hT] at p31 ⊢
      have hTl : T.length ≤ 1000 := by rw [← hT]; show (x30 ++ x4).length + 2 ≤ _; rw [List.length_append]; omega
      have s6 : ¬ (9223372036854775807 < x6.length + 2) := by omega
      have s30 : ¬ (9223372036854775807 < x30.length + x4.length) := by omega
      have HP := Lib.hid (And.intro p6 (And.intro p5 (And.intro p30 (And.intro p4 (And.intro p31 (And.intro ht (And.intro hoid hTl)))))))
      clear p6 p5 p30 p4 p31 hoid hx6 hx30 hx4 hT hob ht hib l6 l4 lx hTl ho9 hml l5
      go_enter Tryd.func12, Tryd.ntmps12
      go_wp2_with fail
      refine (HS.out _).mono ?_
      rintro e w' ⟨rfl, rfl⟩
      go_wp2_with fail
      refine (HS.out _).mono ?_
      rintro e w' ⟨rfl, rfl⟩
      go_wp2_with fail
      refine (HP.out.2.2.2.2.2.2.1 _).mono ?_
      rintro e w' ⟨rfl, rfl⟩
      go_wp2_with fail
      refine (HP.out.1 _).mono ?_
      rintro e w1 ⟨rfl, hO1⟩
      go_wp2_with fail
      refine (HP.out.2.1 _).mono ?_
      rintro e w2 ⟨rfl, hO2⟩
      have H2 := Lib.hid (Old.trans hO1 hO2)
      clear hO1 hO2
      go_wp2_with fail
      rw [show (({ data := x6.toArray } : ByteArray) ++ { data := #[5, 0] }) = ⟨(x6 ++ [5, 0]).toArray⟩ from mk_app x6 [5, 0]]
      refine (HP.out.2.2.1 _).mono ?_
      rintro e w3 ⟨rfl, hO3⟩
      have H3 := Lib.hid (Old.trans H2.out hO3)
      have s3 := (HP.out.2.2.2.2.2.1.below H3.out).str
      clear hO3
      go_wp2_with fail
      refine (HP.out.2.2.2.1 _).mono ?_
      rintro e w4 ⟨rfl, hO4⟩
      have H4 := Lib.hid (Old.trans H3.out hO4)
      clear hO4 s3
      go_wp2_with fail
      rw [show (({ data := x30.toArray } : ByteArray) ++ { data := x4.toArray }) = ⟨(x30 ++ x4).toArray⟩ from mk_app x30 x4]
      refine (HP.out.2.2.2.2.1 _).mono ?_
      rintro e w5 ⟨rfl, hO5⟩
      obtain ⟨c6, w6, hrun, hR6, hB6⟩ := str_to_bytes T (by have := HP.out.2.2.2.2.2.2.2; omega) w5
      have H5 := Lib.hid (And.intro (Old.trans (Old.trans H4.out hO5) hB6) hR6)
      clear hO5 hB6 hR6
      go_wp2_with fail
      refine bodyPost_ret (results_tmp2 rfl _ _ _) rfl ?_
      exact ⟨_, _, _, rfl, H5.out.2, H5.out.1⟩
    · rw [if_pos (.inr h1)]
      have hbn : ((m : Int) != hs) = true := by simpa using h1
      clear ht hml
      go_enter Tryd.func12, Tryd.ntmps12
      go_wp2_with fail
      refine (HS.out _).mono ?_
      rintro e w' ⟨rfl, rfl⟩
      go_wp2_with fail
      refine (HS.out _).mono ?_
      rintro e w' ⟨rfl, rfl⟩
      go_wp2_with fail
      refine bodyPost_ret (results_tmp2 rfl _ _ _) rfl ?_
      exact ⟨none, 0, 0, rfl, Rd.nil _, Old.refl _⟩
set_option maxHeartbeats 4000000 in
theorem sign1_any (n : Int) (A : Option Addr) (m c : Nat) (t : List UInt8) (w : World) (ht : Rd w A m c t) (hn : n ≤ 200 ∨ 65536 < n) (hn0 : -9223372036854775808 ≤ n) (hm : m ≤ 100000) :
    Calls Tryd.prog 14 #[.int .i64 n, .slice A m c] w (PRes w (sign1F n t)) := by
  have hml := ht.1
  unfold sign1F
  rw [← hml]
  by_cases h1 : 65536 < n
  · rw [if_pos h1]
    have h1d : decide (n > 65536) = true := decide_eq_true h1
    have h1i : n > 65536 := h1
    clear ht hml
    go_enter Tryd.func14, Tryd.ntmps14
    go_wp2_with fail
    refine bodyPost_ret (results_tmp2 rfl _ _ _) rfl ?_
    exact ⟨none, 0, 0, rfl, Rd.nil _, Old.refl _⟩
  · rw [if_neg h1]
    have h1i : ¬ n > 65536 := h1
    have h1d : decide (n > 65536) = false := decide_eq_false h1i
    by_cases h2 : n < 11
    · rw [if_pos (.inl h2)]
      have h2d : decide (n < 11) = true := decide_eq_true h2
      clear ht hml
      go_enter Tryd.func14, Tryd.ntmps14
      go_wp2_with fail
      refine bodyPost_ret (results_tmp2 rfl _ _ _) rfl ?_
      exact ⟨none, 0, 0, rfl, Rd.nil _, Old.refl _⟩
    · have h2d : decide (n < 11) = false := decide_eq_false h2
      obtain ⟨q, hq⟩ : ∃ q, n - 11 = q := ⟨_, rfl⟩
      have hqw : IntKind.i64.wrap q = q := IntWalk.i64_in _ (by omega)
      by_cases h3 : q < (m : Int)
      · rw [if_pos (.inr (by rw [hq]; exact h3))]
        have h3i : (m : Int) > q := h3
        have h3d : decide ((m : Int) > q) = true := decide_eq_true h3i
        clear ht hml
        go_enter Tryd.func14, Tryd.ntmps14
        go_wp2_with fail
        refine bodyPost_ret (results_tmp2 rfl _ _ _) rfl ?_
        exact ⟨none, 0, 0, rfl, Rd.nil _, Old.refl _⟩
      · rw [if_neg (fun h => h.elim h2 (fun h => h3 (by rw [← hq]; exact h)))]
        have h3i : ¬ (m : Int) > q := h3
        have h3d : decide ((m : Int) > q) = false := decide_eq_false h3i
        obtain ⟨N, rfl⟩ := Int.eq_ofNat_of_zero_le (show 0 ≤ n by omega)
        rw [Int.toNat_natCast]
        obtain ⟨n3, hn3⟩ : ∃ x, N - 3 = x := ⟨_, rfl⟩
        obtain ⟨k, hk⟩ : ∃ x, n3 - m = x := ⟨_, rfl⟩
        have hn3i : (N : Int) - 3 = (n3 : Int) := by omega
        have hn3w : IntKind.i64.wrap (n3 : Int) = (n3 : Int) := IntWalk.i64_in _ (by omega)
        have hki : (n3 : Int) - (m : Int) = (k : Int) := by omega
        have hkw : IntKind.i64.wrap (k : Int) = (k : Int) := IntWalk.i64_in _ (by omega)
        have hk1 : 1 ≤ k := by omega
        have hk2 : k ≤ 255 := by omega
        rw [hn3, hk]
        obtain ⟨TG, hTG⟩ : ∃ T, [0, 1] ++ List.replicate k 255 ++ 0 :: t = T := ⟨_, rfl⟩
        rw [hTG]
        have hTG2 : ([0, 1] ++ List.replicate k 255 ++ [0]) ++ t = TG := by rw [← hTG]; simp
        obtain ⟨w1, hw1⟩ : ∃ w1, w.alloc (.cells #[.int .u8 0, .int .u8 1] 5) = w1 := ⟨_, rfl⟩
        have ho1 : Own w1 w.heap.size (.slice (some ⟨w.heap.size, 0, none⟩) 2 2) [0, 1] := by rw [← hw1]; exact own_new w [0, 1] _ 2 rfl rfl (by decide)
        have hb1 : Old w w1 := by rw [← hw1]; exact (Old.refl w).alloc _
        obtain ⟨w2, hw2⟩ : ∃ w2, w1.alloc (.cells #[.int .u8 255] 5) = w2 := ⟨_, rfl⟩
        have hr2 : Rd w2 (some ⟨w1.heap.size, 0, none⟩) 1 1 [255] := by rw [← hw2]; exact rd_lit rfl rfl (by decide)
        have hb2 : Old w1 w2 := by rw [← hw2]; exact (Old.refl w1).alloc _
        have hz1 := hb1.size
        have HH := Lib.hid (And.intro ht (And.intro hml (And.intro hk1 (And.intro hk2 (And.intro ho1 (And.intro (Old.trans hb1 hb2) (And.intro hr2 (And.intro hb2 (And.intro hTG2 (Nat.le_trans hz1 hb2.size))))))))))
        clear ht hml hn3 hk hk1 hk2 hn hn0 h2 h3 hTG hTG2 ho1 hb1 hr2 hb2 hz1
        go_enter Tryd.func14, Tryd.ntmps14
        go_wp2_with fail
        refine (repeat_any 255 k HH.out.2.2.1 HH.out.2.2.2.1 (some ⟨w1.heap.size, 0, none⟩) 1 w2 HH.out.2.2.2.2.2.2.1).mono ?_
        rintro e w3 ⟨g, rfl, hR3, hg3, hO3⟩
        have H3 := Lib.hid (And.intro ((HH.out.2.2.2.2.1.below HH.out.2.2.2.2.2.2.2.1).below hO3) (And.intro hR3 (Old.trans HH.out.2.2.2.2.2.1 hO3)))
        clear hR3 hg3 hO3 hw1 hw2
        go_upto_region 6 with (at_builtin; refine wp_app2 (.tmp 20) (.tmp 27) w.heap.size _ [0, 1] H3.out.1 H3.out.2.2.size (some ⟨g, 0, none⟩) k k _ H3.out.2.1 (by have := HH.out.2.2.2.1; simp; omega) rfl rfl rfl rfl ?_; intro A4 n4 c4 w4 hn4 hG4; have H4 := Lib.hid hG4; clear hG4)
        have hO4 : Old w w4 := Below.trans H3.out.2.2 H4.out.below
        have HO4 := Lib.hid hO4
        clear hO4
        go_wp2_with (first | (at_builtin; refine wp_app_lit (.tmp 29) (.tmp 30) w.heap.size (.slice A4 n4 c4) _ H4.out.own HO4.out.size [0] (by have := HH.out.2.2.2.1; simp; omega) (by simp) rfl rfl rfl rfl rfl rfl ?_; intro A5 n5 c5 w5 hn5 hG5; have H5 := Lib.hid (And.intro hG5.own (show Old w w5 from Below.trans (HO4.out.alloc _) hG5.below)); clear hG5) | (at_builtin; refine wp_app2 (.tmp 31) (.tmp 32) w.heap.size (.slice A5 n5 c5) _ H5.out.1 H5.out.2.size A m c t (HH.out.1.below H5.out.2) (by have h1 := HH.out.2.2.2.1; have h2 := HH.out.2.1; simp; omega) rfl rfl rfl rfl ?_; intro A6 n6 c6 w6 hn6 hG6; have H6 := Lib.hid hG6; clear hG6))
        refine bodyPost_ret (results_tmp2 rfl _ _ _) rfl ?_
        rw [← HH.out.2.2.2.2.2.2.2.2.1]
        exact ⟨_, _, _, rfl, H6.out.own.rd, Below.trans H5.out.2 H6.out.below⟩
end Go.Proofs.YtddemlajfbagdaaDoor
