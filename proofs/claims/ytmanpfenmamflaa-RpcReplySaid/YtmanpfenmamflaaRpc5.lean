/-
  rpc.Call.
-/
import Derived.Test.YtmanpfenmamflaaRpc4
namespace Go.Proofs.Ytmanpfenmamflaa
open Go.RowKit

/-- A call. -/
structure PCall where
  fn : Int
  ss : Int
  a : Int
  b : Int
  n : Int
  kd : Int
  param : List UInt8
  data : List UInt8
  more : List UInt8
  t1 : List (Int × List UInt8)
  t2 : List (Int × List UInt8)
/-- A slice's place. -/
structure Sl where
  A : Option Addr
  m : Nat
  c : Nat
def Sl.v (s : Sl) : Value := .slice s.A s.m s.c
def callV (c : PCall) (p d e t u : Sl) : Value := .agg #[.int .i64 c.fn, .int .i64 c.ss, .int .i64 c.a, .int .i64 c.b, .int .i64 c.n, .int .i64 c.kd, .slice p.A p.m p.c, .slice d.A d.m d.c, .slice e.A e.m e.c, .slice t.A t.m t.c, .slice u.A u.m u.c]
/-- The slices of a call read as it says. -/
structure CallIs (W : World) (base : Nat) (c : PCall) (p d e t u : Sl) : Prop where
  hp : RdB W base p.A p.m p.c c.param
  hd : RdB W base d.A d.m d.c c.data
  he : RdB W base e.A e.m e.c c.more
  ht : AtsAt W base t.A t.m c.t1
  hu : AtsAt W base u.A u.m c.t2
  tm : t.m ≤ maxLen
  um : u.m ≤ maxLen
theorem CallIs.old {W W' : World} {base : Nat} {c : PCall} {p d e t u : Sl} (h : CallIs W base c p d e t u) (hb : Below base W W') : CallIs W' base c p d e t u :=
  ⟨h.hp.old hb, h.hd.old hb, h.he.old hb, h.ht.old hb, h.hu.old hb, h.tm, h.um⟩
theorem CallIs.mono {W : World} {base base' : Nat} {c : PCall} {p d e t u : Sl} (h : CallIs W base c p d e t u) (hb : base ≤ base') : CallIs W base' c p d e t u :=
  ⟨h.hp.mono hb, h.hd.mono hb, h.he.mono hb, h.ht.mono hb, h.hu.mono hb, h.tm, h.um⟩
def p4 (n : Int) : Option (List UInt8) := pnum n 4 2147483647
/-- A call's body, if it may be. -/
def callO (c : PCall) : Option (List UInt8) :=
  ocat (ocat (ocat (ocat (ocat (ocat (pnum c.fn 1 255) (pcat ([c.ss, c.a, c.b, c.n, c.kd].map p4))) (pbytes c.param 2 65535)) (pbytes c.data 4 65536)) (pbytes c.more 2 65535)) (pattrs c.t1)) (pattrs c.t2)
theorem pcat_stepI (l : List Int) (k : Nat) (a : Int) (h : l[k]? = some a) : pcat ((l.take (k + 1)).map p4) = ocat (pcat ((l.take k).map p4)) (p4 a) := by
  rw [List.take_add_one, h, List.map_append, pcat_append]
  simp only [Option.toList_some, List.map_cons, List.map_nil, pcat, ocat_nil]
def callC (c : PCall) (p d e t u : Sl) : Array Value := #[.int .i64 c.fn, .int .i64 c.ss, .int .i64 c.a, .int .i64 c.b, .int .i64 c.n, .int .i64 c.kd, .slice p.A p.m p.c, .slice d.A d.m d.c, .slice e.A e.m e.c, .slice t.A t.m t.c, .slice u.A u.m u.c]
set_option maxRecDepth 100000 in
set_option maxHeartbeats 2000000 in
theorem call_o (c : PCall) (p d e t u : Sl) (w : World) (h : CallIs w w.heap.size c p d e t u) :
    Calls Try.prog 9 #[callV c p d e t u] w (FrRes w (frameO (callO c))) := by
  unfold callV
  obtain ⟨X, hX⟩ : ∃ X, X = w.heap.size := ⟨_, rfl⟩
  have HX := Lib.hid (And.intro h hX)
  clear h
  go_enter Try.func9, Try.ntmps9
  go_wp2_with fail
  obtain ⟨wA, hwA⟩ : ∃ wA, (w.alloc (.cells (callC c p d e t u) 27)).alloc (.cells #[.slice none 0 0, .bool false] 58) = wA := ⟨_, rfl⟩
  have hC : Blk wA X 27 (callC c p d e t u) := by rw [← hwA, hX]; exact (Blk.new _ _ _).alloc _
  have hbA : Below X w wA := by rw [← hwA, hX]; exact ((Below.refl _ _).alloc (Nat.le_refl _) _).alloc (by simp) _
  have hsA : wA.heap.size = X + 2 := by rw [← hwA, hX]; simp
  have hW0 : WrO wA (X + 1) [X + 1] (some []) 0 := by
    refine ⟨[], false, ⟨none, 0, 0, ?_, Own.nil _ _, rfl⟩, Nat.le_refl _, rfl⟩
    rw [← hwA, hX]
    have := Blk.new (w.alloc (.cells (callC c p d e t u) 27)) 58 #[.slice none 0 0, .bool false]
    rwa [show (w.alloc (.cells (callC c p d e t u) 27)).heap.size = w.heap.size + 1 by simp] at this
  have hI : CallIs wA (X + 1) c p d e t u := ((hX ▸ HX.out.1).old hbA).mono (by omega)
  unfold callC at hwA
  rw [hwA, ← hX]
  clear hwA
  have HA := Lib.hid (And.intro hC (And.intro hbA (And.intro hsA (And.intro hW0 hI))))
  clear hC hbA hsA hW0 hI hX
  refine (put_o (X + 1) c.fn 255 1 [X + 1] (some []) 0 wA HA.out.2.2.2.1 (.inl rfl) (by decide) (by decide)).mono ?_
  rintro e1 w1 ⟨rfl, S1, hW⟩
  rw [nil_ocat] at hW
  have hC1 := HA.out.1.turn hW.turn (by simp)
  have q1 := hC1.cell 1
  have q2 := hC1.cell 2
  have q3 := hC1.cell 3
  have q4 := hC1.cell 4
  have q5 := hC1.cell 5
  simp only [callC, List.getElem?_toArray, List.getElem?_cons_succ, List.getElem?_cons_zero] at q1 q2 q3 q4 q5
  have H1 := Lib.hid (And.intro hW hC1)
  clear hW hC1
  go_wp2_with fail
  obtain ⟨wB, hwB⟩ : ∃ wB, w1.alloc (.cells #[.int .i64 c.ss, .int .i64 c.a, .int .i64 c.b, .int .i64 c.n, .int .i64 c.kd] 3) = wB := ⟨_, rfl⟩
  have hQ : Blk wB w1.heap.size 3 #[.int .i64 c.ss, .int .i64 c.a, .int .i64 c.b, .int .i64 c.n, .int .i64 c.kd] := by rw [← hwB]; exact Blk.new _ _ _
  have hWB : Wrote (X + 1) wA wB [X + 1] (pnum c.fn 1 255) (0 + 8) S1 := by rw [← hwB]; exact H1.out.1.alloc _
  rw [hwB]
  clear hwB q1 q2 q3 q4 q5
  have hQS : w1.heap.size ∉ S1 := fun hm => by have := (H1.out.1.wr.in_ _ hm).2; omega
  generalize w1.heap.size = Y at *
  have HB := Lib.hid (And.intro hQ (And.intro hWB hQS))
  clear hQ hWB hQS
  go_loopw [26] (fun kk wr => ∃ k : Nat, k ≤ 5 ∧ kk = .int .i64 (k : Int) ∧ Blk wr Y 3 #[.int .i64 c.ss, .int .i64 c.a, .int .i64 c.b, .int .i64 c.n, .int .i64 c.kd] ∧ ∃ Sr, Y ∉ Sr ∧ Wrote (X + 1) wA wr [X + 1] (ocat (pnum c.fn 1 255) (pcat (([c.ss, c.a, c.b, c.n, c.kd].take k).map p4))) (8 + k * 8) Sr) (fun kk _ => 5 - (intOf kk).toNat)
  case atStart => exact ⟨0, by omega, rfl, HB.out.1, S1, HB.out.2.2, by rw [List.take_zero, List.map_nil, pcat, ocat_nil]; simpa using HB.out.2.1⟩
  case round =>
    obtain ⟨k, hk, rfl, hQ, Sr, hYS, hWr⟩ := hrel
    have hCr := HA.out.1.turn hWr.turn (by simp)
    by_cases hlt : k < 5
    · have hlti : (k : Int) < 5 := by omega
      have hltd : decide ((k : Int) < 5) = true := decide_eq_true hlti
      have hk0 : ¬ ((k : Int) < 0) := by omega
      obtain ⟨x, hx⟩ : ∃ x, [c.ss, c.a, c.b, c.n, c.kd][k]? = some x := ⟨_, List.getElem?_eq_getElem (by simpa using hlt)⟩
      have qk : wr.cell? ⟨Y, k, none⟩ = some (.int .i64 x) := by
        rw [hQ.cell k, show (#[Value.int .i64 c.ss, .int .i64 c.a, .int .i64 c.b, .int .i64 c.n, .int .i64 c.kd] : Array Value) = ([c.ss, c.a, c.b, c.n, c.kd].map (Value.int .i64)).toArray from rfl, List.getElem?_toArray, List.getElem?_map, hx]; rfl
      have HR := Lib.hid (And.intro hQ (And.intro hYS (And.intro hWr hx)))
      clear hQ hYS hWr hCr hx
      go_wp2_with fail
      refine (put_o (X + 1) x 2147483647 4 _ _ _ wr HR.out.2.2.1.wr (.inr (.inr rfl)) (by decide) (by omega)).mono ?_
      rintro e3 w3 ⟨rfl, S3, hW3⟩
      have hQ3 := HR.out.1.turn hW3.turn HR.out.2.1
      have hY3 : Y ∉ S3 := fun hm => by
        have := HR.out.1.lt
        rcases hW3.in_ _ hm with h | h
        · exact HR.out.2.1 h
        · omega
      have H3 := Lib.hid (And.intro hQ3 (And.intro hY3 (HR.out.2.2.1.trans hW3)))
      clear hQ3 hY3 hW3
      go_wp2_with fail
      go_roundw
      case measure => simp [intOf]; omega
      refine ⟨k + 1, by omega, by simp, H3.out.1, S3, H3.out.2.1, ?_⟩
      rw [pcat_stepI _ _ _ HR.out.2.2.2, ← ocat_assoc]
      exact H3.out.2.2.more (by omega)
    · obtain rfl : k = 5 := by omega
      have HR := Lib.hid (And.intro hWr hCr)
      clear hWr hCr hQ hYS
      have q6 := HR.out.2.cell 6
      simp only [callC, List.getElem?_toArray, List.getElem?_cons_succ, List.getElem?_cons_zero] at q6
      go_wp2_with fail
      have hI5 := HA.out.2.2.2.2.old (HR.out.1.below (B := X + 1) (by simp) (Nat.le_refl _) (by have := HA.out.2.2.1; omega))
      refine (wbytes_o (X + 1) p.A p.m p.c c.param 65535 2 _ _ _ wr HR.out.1.wr hI5.hp (.inr (.inl rfl)) (by decide) (by omega)).mono ?_
      rintro e5 w5 ⟨rfl, S5, hW5⟩
      have H5 := Lib.hid (And.intro (HR.out.1.trans hW5) (HR.out.2.turn hW5.turn (fun hm => by have := (HR.out.1.wr.in_ _ hm).1; omega)))
      clear hW5 hI5 q6
      have q7 := H5.out.2.cell 7
      simp only [callC, List.getElem?_toArray, List.getElem?_cons_succ, List.getElem?_cons_zero] at q7
      go_wp2_with fail
      have hI6 := HA.out.2.2.2.2.old (H5.out.1.below (B := X + 1) (by simp) (Nat.le_refl _) (by have := HA.out.2.2.1; omega))
      refine (wbytes_o (X + 1) d.A d.m d.c c.data 65536 4 _ _ _ w5 H5.out.1.wr hI6.hd (.inr (.inr rfl)) (by decide) (by omega)).mono ?_
      rintro e6 w6 ⟨rfl, S6, hW6⟩
      have H6 := Lib.hid (And.intro (H5.out.1.trans hW6) (H5.out.2.turn hW6.turn (fun hm => by have := (H5.out.1.wr.in_ _ hm).1; omega)))
      clear hW6 hI6 q7
      have q8 := H6.out.2.cell 8
      simp only [callC, List.getElem?_toArray, List.getElem?_cons_succ, List.getElem?_cons_zero] at q8
      go_wp2_with fail
      have hI7 := HA.out.2.2.2.2.old (H6.out.1.below (B := X + 1) (by simp) (Nat.le_refl _) (by have := HA.out.2.2.1; omega))
      refine (wbytes_o (X + 1) e.A e.m e.c c.more 65535 2 _ _ _ w6 H6.out.1.wr hI7.he (.inr (.inl rfl)) (by decide) (by omega)).mono ?_
      rintro e7 w7 ⟨rfl, S7, hW7⟩
      have H7 := Lib.hid (And.intro (H6.out.1.trans hW7) (H6.out.2.turn hW7.turn (fun hm => by have := (H6.out.1.wr.in_ _ hm).1; omega)))
      clear hW7 hI7 q8
      have q9 := H7.out.2.cell 9
      simp only [callC, List.getElem?_toArray, List.getElem?_cons_succ, List.getElem?_cons_zero] at q9
      go_wp2_with fail
      have hI8 := HA.out.2.2.2.2.old (H7.out.1.below (B := X + 1) (by simp) (Nat.le_refl _) (by have := HA.out.2.2.1; omega))
      refine (wattrs_o (X + 1) t.A t.m t.c c.t1 _ _ _ w7 H7.out.1.wr hI8.ht hI8.tm (by omega)).mono ?_
      rintro e8 w8 ⟨rfl, S8, hW8⟩
      have H8 := Lib.hid (And.intro (H7.out.1.trans hW8) (H7.out.2.turn hW8.turn (fun hm => by have := (H7.out.1.wr.in_ _ hm).1; omega)))
      clear hW8 hI8 q9
      have q10 := H8.out.2.cell 10
      simp only [callC, List.getElem?_toArray, List.getElem?_cons_succ, List.getElem?_cons_zero] at q10
      go_wp2_with fail
      have hI9 := HA.out.2.2.2.2.old (H8.out.1.below (B := X + 1) (by simp) (Nat.le_refl _) (by have := HA.out.2.2.1; omega))
      refine (wattrs_o (X + 1) u.A u.m u.c c.t2 _ _ _ w8 H8.out.1.wr hI9.hu hI9.um (by omega)).mono ?_
      rintro e9 w9 ⟨rfl, S9, hW9⟩
      have H9 := Lib.hid (And.intro (H8.out.1.trans hW9) (H8.out.2.turn hW9.turn (fun hm => by have := (H8.out.1.wr.in_ _ hm).1; omega)))
      clear hW9 hI9 q10
      go_wp2_with fail
      refine (frame_o (X + 1) _ _ _ w9 H9.out.1.wr (by omega)).mono ?_
      rintro ef wf ⟨hbf, hres⟩
      have hbw : Below X w wf := by
        have h1 := H9.out.1.below (B := X) (by simp) (by omega) (by have := HA.out.2.2.1; omega)
        exact (HA.out.2.1.trans h1).trans (hbf.mono (by have := H9.out.1.turn.size; have := HA.out.2.2.1; omega))
      have HF := Lib.hid hbw
      clear hbf hbw
      have hs : (ocat (ocat (ocat (ocat (ocat (ocat (pnum c.fn 1 255) (pcat (([c.ss, c.a, c.b, c.n, c.kd].take 5).map p4))) (pbytes c.param 2 65535)) (pbytes c.data 4 65536)) (pbytes c.more 2 65535)) (pattrs c.t1)) (pattrs c.t2)) = callO c := rfl
      rw [hs] at hres
      clear hs
      rcases hres with ⟨hn, rfl⟩ | ⟨x, hx, A, n, cc, rfl, hO⟩
      · have HN := Lib.hid hn
        clear hn
        go_wp2_with fail
        go_ret2
        rw [HX.out.2] at HF
        exact ⟨HF.out, .inl ⟨HN.out, rfl⟩⟩
      · have HN := Lib.hid (And.intro hx hO)
        clear hx hO
        go_wp2_with fail
        go_ret2
        refine ⟨by rw [← HX.out.2]; exact HF.out, .inr ⟨x, HN.out.1, A, n, cc, rfl, HN.out.2.mono (by have := H9.out.1.turn.size; have := HA.out.2.2.1; have := HX.out.2; omega)⟩⟩
end Go.Proofs.Ytmanpfenmamflaa
