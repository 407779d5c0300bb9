/-
  rpc.Reply.
-/
import Derived.Test.YtmanpfenmamflaaRpc5
namespace Go.Proofs.Ytmanpfenmamflaa
open Go.RowKit

/-- Numbers that lie below base. -/
def IntsAt (W : World) (base : Nat) (s : Sl) (l : List Int) : Prop :=
  l.length = s.m ∧ s.m ≤ s.c ∧ s.c ≤ maxLen ∧ (s.m = 0 ∨ ∃ b off, s.A = some ⟨b, off, none⟩ ∧ b < base ∧ b < W.heap.size ∧ ∀ (j : Nat) (x : Int), l[j]? = some x → W.cell? ⟨b, off + j, none⟩ = some (.int .i64 x))
theorem IntsAt.old {W W' : World} {base : Nat} {s : Sl} {l : List Int} (h : IntsAt W base s l) (hb : Below base W W') : IntsAt W' base s l := by
  obtain ⟨h1, h1', h1'', h2 | ⟨b, off, h2, h3, h3', h4⟩⟩ := h
  · exact ⟨h1, h1', h1'', .inl h2⟩
  · exact ⟨h1, h1', h1'', .inr ⟨b, off, h2, h3, Nat.lt_of_lt_of_le h3' hb.size, fun j x hj => (hb.cell (p := ⟨b, off + j, none⟩) h3).trans (h4 j x hj)⟩⟩
theorem IntsAt.mono {W : World} {base base' : Nat} {s : Sl} {l : List Int} (h : IntsAt W base s l) (hb : base ≤ base') : IntsAt W base' s l := by
  obtain ⟨h1, h1', h1'', h2 | ⟨b, off, h2, h3, h3', h4⟩⟩ := h
  · exact ⟨h1, h1', h1'', .inl h2⟩
  · exact ⟨h1, h1', h1'', .inr ⟨b, off, h2, by omega, h3', h4⟩⟩
theorem addr_add00 (A : Option Addr) : A.map (·.add 0) = A := by cases A <;> rfl
theorem szI : (Try.prog.info? 3).map (·.size) = some 1 := by kernel_rfl
theorem slice_toI (A : Option Addr) (m c k : Nat) (hk : k ≤ c) (w : World) : (Instr.slice 45 (.slice A m c) none (some (.int .i64 (k : Int))) none).run Try.prog w = .ok (.slice A k c) w := by
  obtain ⟨i, hi, hz⟩ : ∃ i, Try.prog.info? 3 = some i ∧ i.size = 1 := by
    cases h : Try.prog.info? 3 with
    | none => have := szI; rw [h] at this; cases this
    | some i => exact ⟨i, rfl, by have := szI; rw [h] at this; simpa using this⟩
  unfold Instr.slice
  simp [Sem.run_bind, run_underlying Try.underlying45 w, Instr.sliceBounds, Instr.sliceBound, asIntOf, sizeOf, typeInfo, hi, hz]
  rw [if_pos hk, addr_add00 A]
  simp
/-- A reply. -/
structure PRep where
  rv : Int
  a : Int
  b : Int
  data : List UInt8
  list : List Int
  attrs : List (Int × List UInt8)
def repC (c : PRep) (d e t : Sl) : Array Value := #[.int .i64 c.rv, .int .i64 c.a, .int .i64 c.b, .slice d.A d.m d.c, .slice e.A e.m e.c, .slice t.A t.m t.c]
def repV (c : PRep) (d e t : Sl) : Value := .agg #[.int .i64 c.rv, .int .i64 c.a, .int .i64 c.b, .slice d.A d.m d.c, .slice e.A e.m e.c, .slice t.A t.m t.c]
structure RepIs (W : World) (base : Nat) (c : PRep) (d e t : Sl) : Prop where
  hd : RdB W base d.A d.m d.c c.data
  he : IntsAt W base e c.list
  ht : AtsAt W base t.A t.m c.attrs
  tm : t.m ≤ maxLen
theorem RepIs.old {W W' : World} {base : Nat} {c : PRep} {d e t : Sl} (h : RepIs W base c d e t) (hb : Below base W W') : RepIs W' base c d e t := ⟨h.hd.old hb, h.he.old hb, h.ht.old hb, h.tm⟩
theorem RepIs.mono {W : World} {base base' : Nat} {c : PRep} {d e t : Sl} (h : RepIs W base c d e t) (hb : base ≤ base') : RepIs W base' c d e t := ⟨h.hd.mono hb, h.he.mono hb, h.ht.mono hb, h.tm⟩
def pints (l : List Int) : Option (List UInt8) := ocat (pnum l.length 2 1024) (pcat (l.map p4))
def replyO (c : PRep) : Option (List UInt8) := ocat (ocat (ocat (pcat ([c.rv, c.a, c.b].map p4)) (pbytes c.data 4 65536)) (pints c.list)) (pattrs c.attrs)
set_option maxRecDepth 100000 in
set_option maxHeartbeats 2000000 in
theorem reply_o (c : PRep) (d e t : Sl) (w : World) (h : RepIs w w.heap.size c d e t) :
    Calls Try.prog 17 #[repV c d e t] w (FrRes w (frameO (replyO c))) := by
  unfold repV
  obtain ⟨X, hX⟩ : ∃ X, X = w.heap.size := ⟨_, rfl⟩
  have HX := Lib.hid (And.intro h hX)
  clear h
  go_enter Try.func17, Try.ntmps17
  go_wp2_with fail
  obtain ⟨wA, hwA⟩ : ∃ wA, ((w.alloc (.cells (repC c d e t) 48)).alloc (.cells #[.slice none 0 0, .bool false] 58)).alloc (.cells #[.int .i64 c.rv, .int .i64 c.a, .int .i64 c.b] 3) = wA := ⟨_, rfl⟩
  have hC : Blk wA X 48 (repC c d e t) := by rw [← hwA, hX]; exact ((Blk.new _ _ _).alloc _).alloc _
  have hbA : Below X w wA := by rw [← hwA, hX]; exact (((Below.refl _ _).alloc (Nat.le_refl _) _).alloc (by simp) _).alloc (by simp; omega) _
  have hsA : wA.heap.size = X + 3 := by rw [← hwA, hX]; simp
  have hQA : Blk wA (X + 2) 3 #[.int .i64 c.rv, .int .i64 c.a, .int .i64 c.b] := by
    rw [← hwA, hX]
    have := Blk.new ((w.alloc (.cells (repC c d e t) 48)).alloc (.cells #[.slice none 0 0, .bool false] 58)) 3 #[.int .i64 c.rv, .int .i64 c.a, .int .i64 c.b]
    rwa [show ((w.alloc (.cells (repC c d e t) 48)).alloc (.cells #[.slice none 0 0, .bool false] 58)).heap.size = w.heap.size + 2 by simp] at this
  have hW0 : WrO wA (X + 1) [X + 1] (some []) 0 := by
    refine ⟨[], false, ⟨none, 0, 0, ?_, Own.nil _ _, rfl⟩, Nat.le_refl _, rfl⟩
    rw [← hwA, hX]
    have := Blk.new (w.alloc (.cells (repC c d e t) 48)) 58 #[.slice none 0 0, .bool false]
    rw [show (w.alloc (.cells (repC c d e t) 48)).heap.size = w.heap.size + 1 by simp] at this
    exact this.alloc _
  have hI : RepIs wA (X + 1) c d e t := ((hX ▸ HX.out.1).old hbA).mono (by omega)
  unfold repC at hwA
  rw [hwA, ← hX]
  clear hwA
  have HA := Lib.hid (And.intro hC (And.intro hbA (And.intro hsA (And.intro hW0 (And.intro hI hQA)))))
  clear hC hbA hsA hW0 hI hX hQA
  go_loopw [19] (fun kk wr => ∃ k : Nat, k ≤ 3 ∧ kk = .int .i64 (k : Int) ∧ ∃ Sr, X + 2 ∉ Sr ∧ Wrote (X + 1) wA wr [X + 1] (pcat (([c.rv, c.a, c.b].take k).map p4)) (k * 8) Sr) (fun kk _ => 3 - (intOf kk).toNat)
  case atStart => exact ⟨0, by omega, rfl, [X + 1], by simp, by rw [List.take_zero, List.map_nil, pcat]; simpa using Wrote.refl HA.out.2.2.2.1⟩
  case round =>
    obtain ⟨k, hk, rfl, Sr, hYS, hWr⟩ := hrel
    have hCr := HA.out.1.turn hWr.turn (by simp)
    have hQr := HA.out.2.2.2.2.2.turn hWr.turn (by simp)
    by_cases hlt : k < 3
    · have hlti : (k : Int) < 3 := by omega
      have hltd : decide ((k : Int) < 3) = true := decide_eq_true hlti
      have hk0 : ¬ ((k : Int) < 0) := by omega
      obtain ⟨x, hx⟩ : ∃ x, [c.rv, c.a, c.b][k]? = some x := ⟨_, List.getElem?_eq_getElem (by simpa using hlt)⟩
      have qk : wr.cell? ⟨X + 2, k, none⟩ = some (.int .i64 x) := by
        rw [hQr.cell k, show (#[Value.int .i64 c.rv, .int .i64 c.a, .int .i64 c.b] : Array Value) = ([c.rv, c.a, c.b].map (Value.int .i64)).toArray from rfl, List.getElem?_toArray, List.getElem?_map, hx]; rfl
      have HR := Lib.hid (And.intro hYS (And.intro hWr hx))
      have hsr := hQr.lt
      have HS := Lib.hid hsr
      clear hYS hWr hCr hx hQr hsr
      go_wp2_with fail
      refine (put_o (X + 1) x 2147483647 4 _ _ _ wr HR.out.2.1.wr (.inr (.inr rfl)) (by decide) (by omega)).mono ?_
      rintro e3 w3 ⟨rfl, S3, hW3⟩
      have hY3 : X + 2 ∉ S3 := fun hm => by
        have := HS.out
        rcases hW3.in_ _ hm with h | h
        · exact HR.out.1 h
        · omega
      have H3 := Lib.hid (And.intro hY3 (HR.out.2.1.trans hW3))
      clear hY3 hW3
      go_wp2_with fail
      go_roundw
      case measure => simp [intOf]; omega
      refine ⟨k + 1, by omega, by simp, S3, H3.out.1, ?_⟩
      rw [pcat_stepI _ _ _ HR.out.2.2]
      exact H3.out.2.more (by omega)
    · obtain rfl : k = 3 := by omega
      have HR := Lib.hid (And.intro hWr hCr)
      clear hWr hCr hYS hQr
      have q3 := HR.out.2.cell 3
      simp only [repC, List.getElem?_toArray, List.getElem?_cons_succ, List.getElem?_cons_zero] at q3
      go_wp2_with fail
      have hI5 := HA.out.2.2.2.2.1.old (HR.out.1.below (B := X + 1) (by simp) (Nat.le_refl _) (by have := HA.out.2.2.1; omega))
      refine (wbytes_o (X + 1) d.A d.m d.c c.data 65536 4 _ _ _ wr HR.out.1.wr hI5.hd (.inr (.inr rfl)) (by decide) (by omega)).mono ?_
      rintro e5 w5 ⟨rfl, S5, hW5⟩
      have H5 := Lib.hid (And.intro (HR.out.1.trans hW5) (HR.out.2.turn hW5.turn (fun hm => by have := (HR.out.1.wr.in_ _ hm).1; omega)))
      clear hW5 hI5 q3
      have q4 := H5.out.2.cell 4
      simp only [repC, List.getElem?_toArray, List.getElem?_cons_succ, List.getElem?_cons_zero] at q4
      go_wp2_with fail
      refine (put_o (X + 1) e.m 1024 2 _ _ _ w5 H5.out.1.wr (.inr (.inl rfl)) (by decide) (by omega)).mono ?_
      rintro e6 w6 ⟨rfl, S6, hW6⟩
      have H6 := Lib.hid (And.intro (H5.out.1.trans hW6) (H5.out.2.turn hW6.turn (fun hm => by have := (H5.out.1.wr.in_ _ hm).1; omega)))
      clear hW6 q4
      have q4 := H6.out.2.cell 4
      simp only [repC, List.getElem?_toArray, List.getElem?_cons_succ, List.getElem?_cons_zero] at q4
      have hIe := HX.out.1.he
      by_cases hbg : 1024 < e.m
      · have hb : (1024 : Int) < e.m := by omega
        have hrun := slice_toI e.A e.m e.c 1024 (by have := hIe.2.1; omega) w6
        rw [show ((1024 : Nat) : Int) = 1024 from rfl] at hrun
        have HL := Lib.hid (And.intro hIe hbg)
        clear hIe hbg
        go_wp2_with fail
        go_loopw [44] (fun kk wr => ∃ k : Nat, k ≤ 1024 ∧ kk = .int .i64 (k : Int) ∧ ∃ Sr, Wrote (X + 1) wA wr [X + 1] (ocat (ocat (ocat (pcat ([c.rv, c.a, c.b].map p4)) (pbytes c.data 4 65536)) (pnum (e.m : Int) 2 1024)) (pcat ((c.list.take k).map p4))) (100000 + k * 8) Sr) (fun kk _ => 1024 - (intOf kk).toNat)
        case atStart => exact ⟨0, by omega, rfl, S6, by rw [List.take_zero, List.map_nil, pcat, ocat_nil]; exact H6.out.1.more (by omega)⟩
        case round =>
          obtain ⟨k, hk, rfl, Sr', hWr⟩ := hrel
          have hCr := HA.out.1.turn hWr.turn (by simp)
          by_cases hlt2 : k < 1024
          · have hlti : (k : Int) < 1024 := by omega
            have hltd : decide ((k : Int) < 1024) = true := decide_eq_true hlti
            have hk0 : ¬ ((k : Int) < 0) := by omega
            have hIr := HA.out.2.2.2.2.1.he.old (hWr.below (B := X + 1) (by simp) (Nat.le_refl _) (by have := HA.out.2.2.1; omega))
            obtain ⟨j1, j2, j3, j5 | ⟨bb, off, jA, j6, j7, j8⟩⟩ := hIr
            · omega
            · obtain ⟨x, hx⟩ : ∃ x, c.list[k]? = some x := ⟨_, List.getElem?_eq_getElem (by omega)⟩
              have qk := j8 k x hx
              have HR2 := Lib.hid (And.intro hWr hx)
              rw [jA]
              clear hWr hCr hx j8 j1 j2 j3 hrun
              go_wp2_with fail
              refine (put_o (X + 1) x 2147483647 4 _ _ _ wr HR2.out.1.wr (.inr (.inr rfl)) (by decide) (by omega)).mono ?_
              rintro e3 w3 ⟨rfl, S3, hW3⟩
              have H3 := Lib.hid (HR2.out.1.trans hW3)
              clear hW3
              go_wp2_with fail
              go_roundw
              case measure => simp [intOf]; omega
              refine ⟨k + 1, by omega, by simp, S3, ?_⟩
              rw [pcat_stepI _ _ _ HR2.out.2, ← ocat_assoc]
              exact H3.out.more (by omega)
          · obtain rfl : k = 1024 := by omega
            have HR2 := Lib.hid (And.intro hWr hCr)
            clear hWr hCr hrun
            have q5 := HR2.out.2.cell 5
            simp only [repC, List.getElem?_toArray, List.getElem?_cons_succ, List.getElem?_cons_zero] at q5
            go_wp2_with fail
            have hI7 := HA.out.2.2.2.2.1.old (HR2.out.1.below (B := X + 1) (by simp) (Nat.le_refl _) (by have := HA.out.2.2.1; omega))
            refine (wattrs_o (X + 1) t.A t.m t.c c.attrs _ _ _ wr HR2.out.1.wr hI7.ht hI7.tm (by omega)).mono ?_
            rintro e7 w7 ⟨rfl, S7, hW7⟩
            have H7 := Lib.hid (HR2.out.1.trans hW7)
            clear hW7 hI7 q5
            go_wp2_with fail
            refine (frame_o (X + 1) _ _ _ w7 H7.out.wr (by omega)).mono ?_
            rintro ef wf ⟨hbf, hres⟩
            have hbw : Below X w wf := by
              have h1 := H7.out.below (B := X) (by simp) (by omega) (by have := HA.out.2.2.1; omega)
              exact (HA.out.2.1.trans h1).trans (hbf.mono (by have := H7.out.turn.size; have := HA.out.2.2.1; omega))
            have HF := Lib.hid hbw
            clear hbf hbw
            have hs : (ocat (ocat (ocat (ocat (pcat ([c.rv, c.a, c.b].map p4)) (pbytes c.data 4 65536)) (pnum (e.m : Int) 2 1024)) (pcat ((c.list.take 1024).map p4))) (pattrs c.attrs)) = replyO c := by
              unfold replyO pints
              rw [HL.out.1.1]
              congr 1
              rw [← ocat_assoc]
              have hp : pnum (e.m : Int) 2 1024 = none := if_pos (.inr hb)
              rw [hp, ocat_none2, ocat_none, ocat_none]
            rw [hs] at hres
            clear hs
            rcases hres with ⟨hn, rfl⟩ | ⟨x, hx, A, n, cc, rfl, hO⟩
            · have HN := Lib.hid hn
              clear hn
              go_wp2_with fail
              go_ret2
              rw [HX.out.2] at HF
              exact ⟨HF.out, .inl ⟨HN.out, rfl⟩⟩
            · have HN := Lib.hid (And.intro hx hO)
              clear hx hO
              go_wp2_with fail
              go_ret2
              refine ⟨by rw [← HX.out.2]; exact HF.out, .inr ⟨x, HN.out.1, A, n, cc, rfl, HN.out.2.mono (by have := H7.out.turn.size; have := HA.out.2.2.1; have := HX.out.2; omega)⟩⟩
      · have hb : (e.m : Int) ≤ 1024 := by omega
        have hb2 : ¬ (1024 : Int) < e.m := by omega
        have hrun := slice_toI e.A e.m e.c e.m (by have := hIe.2.1; omega) w6
        have HL := Lib.hid (And.intro hIe hbg)
        clear hIe hbg
        go_wp2_with fail
        go_loopw [44] (fun kk wr => ∃ k : Nat, k ≤ e.m ∧ kk = .int .i64 (k : Int) ∧ ∃ Sr, Wrote (X + 1) wA wr [X + 1] (ocat (ocat (ocat (pcat ([c.rv, c.a, c.b].map p4)) (pbytes c.data 4 65536)) (pnum (e.m : Int) 2 1024)) (pcat ((c.list.take k).map p4))) (100000 + k * 8) Sr) (fun kk _ => e.m - (intOf kk).toNat)
        case atStart => exact ⟨0, by omega, rfl, S6, by rw [List.take_zero, List.map_nil, pcat, ocat_nil]; exact H6.out.1.more (by omega)⟩
        case round =>
          obtain ⟨k, hk, rfl, Sr', hWr⟩ := hrel
          have hCr := HA.out.1.turn hWr.turn (by simp)
          by_cases hlt2 : k < e.m
          · have hlti : (k : Int) < (e.m : Int) := by omega
            have hltd : decide ((k : Int) < (e.m : Int)) = true := decide_eq_true hlti
            have hk0 : ¬ ((k : Int) < 0) := by omega
            have hIr := HA.out.2.2.2.2.1.he.old (hWr.below (B := X + 1) (by simp) (Nat.le_refl _) (by have := HA.out.2.2.1; omega))
            obtain ⟨j1, j2, j3, j5 | ⟨bb, off, jA, j6, j7, j8⟩⟩ := hIr
            · omega
            · obtain ⟨x, hx⟩ : ∃ x, c.list[k]? = some x := ⟨_, List.getElem?_eq_getElem (by omega)⟩
              have qk := j8 k x hx
              have HR2 := Lib.hid (And.intro hWr hx)
              rw [jA]
              clear hWr hCr hx j8 j1 j2 j3 hrun
              go_wp2_with fail
              refine (put_o (X + 1) x 2147483647 4 _ _ _ wr HR2.out.1.wr (.inr (.inr rfl)) (by decide) (by omega)).mono ?_
              rintro e3 w3 ⟨rfl, S3, hW3⟩
              have H3 := Lib.hid (HR2.out.1.trans hW3)
              clear hW3
              go_wp2_with fail
              go_roundw
              case measure => simp [intOf]; omega
              refine ⟨k + 1, by omega, by simp, S3, ?_⟩
              rw [pcat_stepI _ _ _ HR2.out.2, ← ocat_assoc]
              exact H3.out.more (by omega)
          · obtain rfl : k = e.m := by omega
            have HR2 := Lib.hid (And.intro hWr hCr)
            clear hWr hCr hrun
            have q5 := HR2.out.2.cell 5
            simp only [repC, List.getElem?_toArray, List.getElem?_cons_succ, List.getElem?_cons_zero] at q5
            go_wp2_with fail
            have hI7 := HA.out.2.2.2.2.1.old (HR2.out.1.below (B := X + 1) (by simp) (Nat.le_refl _) (by have := HA.out.2.2.1; omega))
            refine (wattrs_o (X + 1) t.A t.m t.c c.attrs _ _ _ wr HR2.out.1.wr hI7.ht hI7.tm (by omega)).mono ?_
            rintro e7 w7 ⟨rfl, S7, hW7⟩
            have H7 := Lib.hid (HR2.out.1.trans hW7)
            clear hW7 hI7 q5
            go_wp2_with fail
            refine (frame_o (X + 1) _ _ _ w7 H7.out.wr (by omega)).mono ?_
            rintro ef wf ⟨hbf, hres⟩
            have hbw : Below X w wf := by
              have h1 := H7.out.below (B := X) (by simp) (by omega) (by have := HA.out.2.2.1; omega)
              exact (HA.out.2.1.trans h1).trans (hbf.mono (by have := H7.out.turn.size; have := HA.out.2.2.1; omega))
            have HF := Lib.hid hbw
            clear hbf hbw
            have hs : (ocat (ocat (ocat (ocat (pcat ([c.rv, c.a, c.b].map p4)) (pbytes c.data 4 65536)) (pnum (e.m : Int) 2 1024)) (pcat ((c.list.take e.m).map p4))) (pattrs c.attrs)) = replyO c := by
              unfold replyO pints
              rw [HL.out.1.1]
              congr 1
              rw [← ocat_assoc]
              rw [List.take_of_length_le (by rw [HL.out.1.1]; exact Nat.le_refl _)]
            rw [hs] at hres
            clear hs
            rcases hres with ⟨hn, rfl⟩ | ⟨x, hx, A, n, cc, rfl, hO⟩
            · have HN := Lib.hid hn
              clear hn
              go_wp2_with fail
              go_ret2
              rw [HX.out.2] at HF
              exact ⟨HF.out, .inl ⟨HN.out, rfl⟩⟩
            · have HN := Lib.hid (And.intro hx hO)
              clear hx hO
              go_wp2_with fail
              go_ret2
              refine ⟨by rw [← HX.out.2]; exact HF.out, .inr ⟨x, HN.out.1, A, n, cc, rfl, HN.out.2.mono (by have := H7.out.turn.size; have := HA.out.2.2.1; have := HX.out.2; omega)⟩⟩
end Go.Proofs.Ytmanpfenmamflaa
