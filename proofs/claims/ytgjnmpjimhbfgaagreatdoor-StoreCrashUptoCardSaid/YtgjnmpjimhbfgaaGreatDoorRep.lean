/-
  bytes.Repeat of one byte.
-/
import Derived.Test.YtgjnmpjimhbfgaaGreatDoorZzEqB
import Derived.Test.YtgjnmpjimhbfgaaGreatDoorZzEqB
import Derived.Lib.MakeNoZero
namespace Go.Proofs.YtgjnmpjimhbfgaaGreatDoor
set_option maxRecDepth 100000
open Go.RowKit
theorem mul64_one (n : Nat) (hn : n ≤ 255) (w : World) : Calls Tryz.prog 163 #[.int .u64 1, .int .u64 (n : Int)] w fun e w' => e = .returned (.tuple #[.int .u64 0, .int .u64 (n : Int)]) ∧ w = w' := by
 have b1 : bits .and .u64 1 4294967295 = 1 := by decide
 have b3 : bits .and .u64 0 4294967295 = 0 := by decide
 have b2 : bits .and .u64 (n : Int) 4294967295 = (n : Int) := by
  have h : ∀ k : Fin 256, bits .and .u64 ((k.1 : Nat) : Int) 4294967295 = ((k.1 : Nat) : Int) := by decide
  exact h ⟨n, by omega⟩
 have hz : (n : Int) / 4294967296 = 0 := by omega
 have w0 : IntKind.u64.wrap 0 = 0 := by decide
 go_enter Tryz.func163, Tryz.ntmps163
 go_wp2_with fail
 refine bodyPost_ret (results_tmp2 rfl _ _ _) rfl ?_
 exact ⟨rfl, rfl⟩
theorem mul_one_ (n : Nat) (hn : n ≤ 255) (w : World) : Calls Tryz.prog 145 #[.int .u64 1, .int .u64 (n : Int)] w fun e w' => e = .returned (.tuple #[.int .u64 0, .int .u64 (n : Int)]) ∧ w = w' := by
 have h := mul64_one n hn w
 go_enter Tryz.func145, Tryz.ntmps145
 go_wp2_with fail
 refine h.mono ?_
 rintro e w' ⟨rfl, rfl⟩
 go_wp2_with fail
 refine bodyPost_ret (results_tmp2 rfl _ _ _) rfl ?_
 exact ⟨rfl, rfl⟩
theorem run_mnz (w : World) (ps : Array TypeId) (n : Nat) (hn : n ≤ 281474976710656) :
  ∃ l : List UInt8, (Extern.BytealgMakeNoZero.makeNoZero ps #[32] #[.int .i64 n]).run Tryz.prog w = .ok (.slice (some ⟨w.heap.size, 0, none⟩) n l.length) (w.drew.drew.alloc (.cells (l.map B).toArray 5)) ∧ n ≤ l.length ∧ l.length ≤ maxLen := by
 have hdig : ∀ (n t : Nat) (acc : List UInt8), ∃ l : List UInt8, Extern.BytealgMakeNoZero.digits n t (acc.map B).toArray = (l.map B).toArray ∧ l.length = acc.length + n := by
  intro n
  induction n with
  | zero => intro t acc; exact ⟨acc, rfl, rfl⟩
  | succ n ih =>
   intro t acc
   obtain ⟨l, h1, h2⟩ := ih (t / 256) (acc ++ [UInt8.ofNat (t % 256)])
   refine ⟨l, ?_, by rw [h2]; simp; omega⟩
   rw [← h1, Extern.BytealgMakeNoZero.digits]
   congr 1
   rw [List.map_append, List.push_toArray]
   congr 1
   simp [B]
 have hdef : Extern.BytealgMakeNoZero.makeNoZero ps #[32] #[.int .i64 n] =
   (do
    let .slice elem ← underlying 32 | stuck "bytealg.MakeNoZero: slice type expected"
    if (n : Int) < 0 || (n : Int) > 2 ^ 48 then runtimePanic (.error "makeslice: len out of range")
    let cap ← choose (.appendCap (n : Int).toNat 0 elem)
    askRoom cap
    let bytes ← choose (.extern "internal/bytealg.MakeNoZero.bytes" 0)
    let a ← newRow elem (Extern.BytealgMakeNoZero.digits cap bytes #[])
    pure (.slice (some a) (n : Int).toNat cap)) := rfl
 obtain ⟨l, h1, h2⟩ := hdig (grownCap w n 0 5) ((Question.extern "internal/bytealg.MakeNoZero.bytes" 0).cut (w.tape (w.drawn + 1) (.extern "internal/bytealg.MakeNoZero.bytes" 0))) []
 have h3 : l.length = grownCap w n 0 5 := by rw [h2]; simp
 refine ⟨l, ?_, ?_, ?_⟩
 ·rw [hdef, ← h1]
  have h1' : ¬ (n : Int) < 0 := by omega
  have h2' : ¬ (281474976710656 : Int) < (n : Int) := by omega
  simp [run_underlying Tryz.underlying32, h1', h2', Question.forced, newRow, grownCap, h3]
 ·rw [h3]
  simpa using grownCap_ge w n 0 5
 ·rw [h3]
  simpa using grownCap_le_maxLen w n 0 5 (by unfold maxLen; omega)
theorem mnz_call (w : World) (n : Nat) (hn : n ≤ 281474976710656) :
  ∃ l : List UInt8, (callFunc 146 #[.int .i64 (n : Int)]).run Tryz.prog w = .ok (.value (.slice (some ⟨w.heap.size, 0, none⟩) n l.length)) ((w.alloc (.cells (l.map B).toArray 5)).drewN 2) ∧ n ≤ l.length ∧ l.length ≤ maxLen := by
 obtain ⟨l, h1, h2, h3⟩ := run_mnz w #[3] n hn
 refine ⟨l, ?_, h2, h3⟩
 rw [run_callFunc_extern Tryz.func146 (by kernel_rfl) (by kernel_rfl) (by kernel_rfl) (e := Extern.BytealgMakeNoZero.makeNoZero #[3] #[32]) (by kernel_rfl), h1]
 rfl
theorem slice_all3 (A : Option Addr) (m c k : Nat) (hA : ∀ ad, A = some ad → ad.spot = none) (hk : k ≤ c) (w : World) : (Instr.slice 32 (.slice A m c) none (some (.int .i64 (k : Int))) (some (.int .i64 (k : Int)))).run Tryz.prog w = .ok (.slice A k k) w := by
 obtain ⟨i, hi, hz⟩ : ∃ i, Tryz.prog.info? 5 = some i ∧ i.size = 1 := by
  cases h : Tryz.prog.info? 5 with
  | none => have := sz8; rw [h] at this; cases this
  | some i => exact ⟨i, rfl, by have := sz8; rw [h] at this; simpa using this⟩
 unfold Instr.slice
 simp [Sem.run_bind, run_underlying Tryz.underlying32 w, Instr.sliceBounds, Instr.sliceBound, asIntOf, sizeOf, typeInfo, hi]
 rw [if_pos hk, addr_add0 A hA]
 simp
theorem Rd.recap {w : World} {ad : Addr} {m c c' : Nat} {l : List UInt8} (h : Rd w (some ad) m c l) (hm : m ≤ c') (hc : c' ≤ maxLen) : Rd w (some ad) m c' l := by
 obtain ⟨h1, _, _, ⟨h4, _⟩ | h4⟩ := h
 ·cases h4
 ·exact ⟨h1, hm, hc, .inr h4⟩
theorem run_rep (l : List UInt8) (x : UInt8) (_n bp k : Nat) (hl : l.take bp = List.replicate bp x) (_h1 : bp + k ≤ l.length) (hk : k ≤ bp) : (splice l bp (l.take k)).take (bp + k) = List.replicate (bp + k) x := by
 have hk2 : l.take k = List.replicate k x := by
  have h := congrArg (List.take k) hl
  rw [List.take_take, Nat.min_eq_left hk, List.take_replicate, Nat.min_eq_left hk] at h
  exact h
 unfold splice
 rw [hl, hk2, ← List.append_assoc, List.replicate_append_replicate, List.take_left' (by simp)]
theorem splice_lenR (l : List UInt8) (off : Nat) (cs : List UInt8) (h : off + cs.length ≤ l.length) : (splice l off cs).length = l.length := by
 unfold splice
 simp
 omega
set_option maxHeartbeats 1000000 in
theorem repeat_any (x : UInt8) (n : Nat) (h1 : 1 ≤ n) (hn : n ≤ 255) (A : Option Addr) (c : Nat) (w : World) (hr : Rd w A 1 c [x]) :
  Calls Tryz.prog 115 #[.slice A 1 c, .int .i64 (n : Int)] w fun e w' => ∃ g, e = .returned (.slice (some ⟨g, 0, none⟩) n n) ∧ Rd w' (some ⟨g, 0, none⟩) n n (List.replicate n x) ∧ w.heap.size ≤ g ∧ Old w w' := by
 obtain ⟨l, hcall, hnl, hlm⟩ := mnz_call w n (by omega)
 obtain ⟨L, hL⟩ : ∃ L, l.length = L := ⟨_, rfl⟩
 rw [hL] at hcall hnl hlm
 obtain ⟨w1, hw1⟩ : ∃ w1, ((w.alloc (.cells (l.map B).toArray 5)).drewN 2) = w1 := ⟨_, rfl⟩
 rw [hw1] at hcall
 obtain ⟨g, hg⟩ : ∃ g, w.heap.size = g := ⟨_, rfl⟩
 have hO1 : Own w1 g (.slice (some ⟨g, 0, none⟩) L L) l := by
  have : Own (w.alloc (.cells (l.map B).toArray 5)) w.heap.size (.slice (some ⟨w.heap.size, 0, none⟩) L L) l := by
   refine ⟨by simp, .inr ⟨w.heap.size, L, _, by rw [hL], Nat.le_refl _, Blk.new w 5 (l.map B).toArray, by rw [hL]; exact Nat.le_refl _, hlm, by simp [hL], ?_⟩⟩
   rw [List.take_of_length_le (by simp [hL])]
  rw [← hw1, ← hg]
  exact this
 have hb1 : Old w w1 := by rw [← hw1]; exact ((Old.refl w).alloc _).drewN 2
 rw [hg] at hcall
 have hs3 := slice_all3 (some ⟨g, 0, none⟩) n L n (fun ad h => by injection h with h; subst h; rfl) hnl
 have hmul := mul_one_ n hn w
 have H := Lib.hid (And.intro hO1 (And.intro hb1 (And.intro (hr.below hb1) (And.intro hL (And.intro hg hlm)))))
 have z0 : ¬ (n : Int) = 0 := by omega
 have z1 : ¬ (n : Int) < 0 := by omega
 have z2 : ¬ (8192 : Int) < n := by omega
 have z3 : ¬ (9223372036854775807 : Int) < n := by omega
 clear hO1 hb1 hr hL hw1 hg
 go_enter Tryz.func115, Tryz.ntmps115
 go_wp2_with fail
 refine hmul.mono ?_
 rintro e w' ⟨rfl, rfl⟩
 clear hmul
 have hmin : min 1 n = 1 := by omega
 go_wp2_with (refine wp_copyR rfl (.tmp 58) (.tmp 59) rfl g g L L 0 n n l H.out.1 rfl (by have := H.out.2.2.2.1; omega) A 1 c [x] rfl H.out.2.2.1 ?_; intro w2 hO2 hg2; have H2 := Lib.hid (And.intro hO2 hg2); clear hO2 hg2)
 have hb2 : Old w w2 := H.out.2.1.grown H2.out.2 H.out.2.1.size (fun k hk => by cases hk; rw [H.out.2.2.2.2.1]; exact Nat.le_refl _)
 have hO2 := H2.out.1
 have hsp : ([x] : List UInt8).take n = [x] := List.take_of_length_le (by simpa using h1)
 rw [hsp] at hO2
 have hl2 : (splice l 0 [x]).length = L := by rw [splice_lenR _ _ _ (by have := H.out.2.2.2.1; simp; omega)]; exact H.out.2.2.2.1
 have ht2 : (splice l 0 [x]).take 1 = List.replicate 1 x := by simp [splice]
 have H3 := Lib.hid (And.intro hO2 (And.intro hl2 (And.intro ht2 hb2)))
 clear hb2 hO2 hsp hl2 ht2 hmin hcall hs3
 go_loopw [10] (fun v wr => ∃ (bp : Nat) (l2 : List UInt8), v = .int .i64 (bp : Int) ∧ 1 ≤ bp ∧ bp ≤ n ∧ Own wr g (.slice (some ⟨g, 0, none⟩) L L) l2 ∧ l2.length = L ∧ l2.take bp = List.replicate bp x ∧ Old w wr) (fun v _ => n - (intOf v).toNat)
 case atStart => exact ⟨1, _, rfl, Nat.le_refl _, h1, H3.out.1, H3.out.2.1, H3.out.2.2.1, H3.out.2.2.2⟩
 case round =>
  obtain ⟨bp, l2, rfl, hbp, hbn, hO, hl2, ht, hb⟩ := hrel
  have HR := Lib.hid (And.intro hO (And.intro hl2 (And.intro ht hb)))
  clear hO hl2 ht hb
  by_cases hlt : bp < n
  ·have hlti : (bp : Int) < n := by omega
   have hltd : decide ((bp : Int) < (n : Int)) = true := decide_eq_true hlti
   have hs1 : ∀ w, (Instr.slice 32 (.slice (some ⟨g, 0, none⟩) n n) (some (.int .i64 (bp : Int))) none none).run Tryz.prog w = .ok (.slice (some ⟨g, bp, none⟩) (n - bp) (n - bp)) w := fun w => by
    have := slice_from (some ⟨g, 0, none⟩) n n bp (by omega) w
    rw [if_neg (by omega)] at this
    have hb0 : ¬ bp = 0 := by omega
    simpa [Addr.add, hb0] using this
   have hs2 := slice_to (some ⟨g, 0, none⟩) n n bp (fun ad h => by injection h with h; subst h; rfl) (by omega)
   have hmn : min bp (n - bp) ≤ bp := Nat.min_le_left _ _
   obtain ⟨k, hk⟩ : ∃ k, min bp (n - bp) = k := ⟨_, rfl⟩
   have hk1 : 1 ≤ k := by omega
   have hkn : bp + k ≤ n := by omega
   have hwr : IntKind.i64.wrap ((bp : Int) + (k : Int)) = (bp : Int) + (k : Int) := IntWalk.i64_in _ (by omega)
   have HK := Lib.hid hk
   clear hmn hk
   go_wp2_with fail
   refine region_turnS [g] (by kernel_rfl) (fun wd hOd hHeld hSz => ?_)
   have HSz := Lib.hid hSz
   clear hSz
   refine tkS 0 hHeld ?_
   refine tkS 1 hHeld ?_
   refine tkS 2 hHeld ?_
   refine tkS 3 hHeld ?_ (hy := by intro wq hSw; have hRun := hs1 wq; clear hSw; go_simp; try with_reducible rfl)
   refine tkS 4 hHeld ?_
   refine tkS 5 hHeld ?_
   refine tkS 6 hHeld ?_ (hy := by intro wq hSw; have hRun := hs2 wq; clear hSw; go_simp; try with_reducible rfl)
   refine rdL 7 (fun K hK => ?_)
   refine step_copyR rfl (.tmp 70) (.tmp 73) rfl g g L L bp (n - bp) (n - bp) l2 ((show Own _ g _ l2 from HR.out.1.below hOd)) rfl (by have := HR.out.2.1; omega) (some ⟨g, 0, none⟩) bp n (l2.take bp) rfl (Rd.recap ((HR.out.1.below hOd).rd.front (by omega)) (by omega) (by unfold maxLen; omega)) (fun w4 hO4 hg4 => ?_)
   refine hK.out _ _ (hHeld.grown hg4 (fun k hk => .inl (by cases hk; simp))) (fun hHeld => ?_)
   clear hK K
   try simp only [Act.put, sA, sB, sC]
   refine tkS 8 hHeld ?_ (hy := by intro wq hSw; have hk := HK.out; clear hSw; go_simp; try with_reducible rfl)
   refine tkS 9 hHeld ?_
   refine wpAnyH_done (by kernel_rfl) ?_ _
   refine NoPanic.normal ?_
   try simp only [Exit.then]
   go_wp2_with fail
   go_roundw
   case measure => simp [intOf]; omega
   have hkk : (l2.take bp).take (n - bp) = l2.take k := by rw [List.take_take, Nat.min_comm, HK.out]
   have hsl : (splice l2 bp (l2.take k)).length = L := by
    rw [splice_lenR _ _ _ (by have := HR.out.2.1; simp; omega)]; exact HR.out.2.1
   rw [hkk] at hO4
   exact ⟨bp + k, _, by simp, by omega, hkn, hO4, hsl, run_rep l2 x n bp k HR.out.2.2.1 (by have := HR.out.2.1; omega) (by have := HK.out; omega), below_turn HR.out.2.2.2 hHeld (by have := H.out.2.2.2.2.1; simp; omega) HR.out.2.2.2.size⟩
  ·obtain rfl : bp = n := by omega
   have hlti : ¬ (bp : Int) < bp := by omega
   have hltd : decide ((bp : Int) < (bp : Int)) = false := decide_eq_false hlti
   go_wp2_with fail
   go_ret
   refine ⟨g, rfl, ?_, by have := H.out.2.2.2.2.1; omega, HR.out.2.2.2⟩
   have := (HR.out.1.rd).front (k := bp) (by omega)
   rw [HR.out.2.2.1] at this
   exact this.recap (Nat.le_refl _) (by unfold maxLen; omega)
end Go.Proofs.YtgjnmpjimhbfgaaGreatDoor
