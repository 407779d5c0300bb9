/-
  DER: 'Read'.
-/
import Derived.Test.YtgkhhinjdojbhaaDer14
import Derived.Test.YtgkhhinjdojbhaaDer12
namespace Go.Proofs.Ytgkhhinjdojbhaa
open Go.RowKit

/-- What is read at the front of bytes: the node, its bytes' number. -/
def rdO (b : List UInt8) : Option (Nd × Nat) :=
  match dec 16 b with
  | none => none
  | some (n, _) => if n.size ≤ 1024 ∧ n.enc.length ≤ 65536 then some (n, n.enc.length) else none
theorem rdO_some {b : List UInt8} {n : Nd} {r : List UInt8} (h : dec 16 b = some (n, r)) : rdO b = if n.size ≤ 1024 ∧ n.enc.length ≤ 65536 then some (n, n.enc.length) else none := by unfold rdO; rw [h]
theorem rdO_none {b : List UInt8} (h : dec 16 b = none) : rdO b = none := by unfold rdO; rw [h]
/-- The reader's answer and the plain one. -/
theorem rdO_of_none {b : List UInt8} (h : (decL 16 1024 b).1 = none) : rdO b = none := by
  obtain ⟨h1, h2⟩ := decL_counts 16 1024 b (by omega)
  cases hd : dec 16 b with
  | none => exact rdO_none hd
  | some x =>
    obtain ⟨n, r⟩ := x
    have h3 := h2 n r hd
    rw [rdO_some hd]
    split at h3
    · rw [h3] at h; cases h
    · rw [if_neg (by omega)]
theorem rdO_of_some {b : List UInt8} {n : Nd} {r : List UInt8} (h : (decL 16 1024 b).1 = some (n, r)) : b.length = n.enc.length + r.length ∧ n.may = true ∧ rdO b = if n.enc.length ≤ 65536 then some (n, n.enc.length) else none := by
  obtain ⟨h1, h2⟩ := decL_counts 16 1024 b (by omega)
  cases hd : dec 16 b with
  | none => rw [h1 hd] at h; cases h
  | some x =>
    obtain ⟨n', r'⟩ := x
    have h3 := h2 n' r' hd
    split at h3
    · rename_i hs
      rw [h3] at h
      simp only [Option.some.injEq, Prod.mk.injEq] at h
      obtain ⟨rfl, rfl⟩ := h
      obtain ⟨e1, e2⟩ := dec_some 16 b n' r' hd
      refine ⟨by rw [e1, List.length_append], by unfold Nd.may; rw [e2, Bool.true_and]; exact decide_eq_true (by omega), ?_⟩
      rw [rdO_some hd]
      by_cases h6 : n'.enc.length ≤ 65536
      · rw [if_pos ⟨by omega, h6⟩, if_pos h6]
      · rw [if_neg (fun h => h6 h.2), if_neg h6]
    · rw [h3] at h; cases h
/-- What Read gives. -/
def ReadPost (w w' : World) (e : Ending) : Option (Nd × Nat) → Prop
  | none => e = .returned (.tuple #[zNF.val, .int .i64 0, .bool false])
  | some (n, u) => ∃ f : NF, e = .returned (.tuple #[f.val, .int .i64 (u : Int), .bool true]) ∧ NdR (fun b => w.heap.size ≤ b ∧ b < w'.heap.size) NB w' f n
theorem node_res2 {fn : Func} {tmps : Array Value} {W : World} {R : Nat} {f : NF} {p q r : Tmp} (hr : fn.results = #[.cell p 25, .tmp q, .tmp r]) (hp : tmps.getD p undef = .pointer (some ⟨R, 0, none⟩)) (hb : Blk W R 25 f.cells.toArray) :
    (results fn tmps).run Try.prog W = .ok (.tuple #[f.val, tmps.getD q undef, tmps.getD r undef]) W := node_res hr hp hb
set_option maxRecDepth 100000 in
set_option maxHeartbeats 8000000 in
theorem read_any (A : Option Addr) (m c : Nat) (b : List UInt8) (w : World) (h : Rd w A m c b) (hm : m ≤ 1000000) :
    Calls Try.prog 15 #[.slice A m c] w fun e w' => ReadPost w w' e (rdO b) ∧ Below w.heap.size w w' := by
  obtain ⟨ans, hans⟩ : ∃ ans, rdO b = ans := ⟨_, rfl⟩
  rw [hans]
  obtain ⟨X, hX⟩ : ∃ X, w.heap.size = X := ⟨_, rfl⟩
  obtain ⟨wA, hwA⟩ : ∃ wA, (w.alloc (.cells #[.int .i64 0, .slice none 0 0, .slice none 0 0] 25)).alloc (.cells #[.int .i64 1024] 75) = wA := ⟨_, rfl⟩
  have bA : Blk wA X 25 #[.int .i64 0, .slice none 0 0, .slice none 0 0] := by rw [← hwA, ← hX]; exact (Blk.new _ _ _).alloc _
  have bL : Blk wA (X + 1) 75 #[.int .i64 1024] := by rw [← hwA, show X + 1 = (w.alloc (.cells #[.int .i64 0, .slice none 0 0, .slice none 0 0] 25)).heap.size by rw [← hX]; simp]; exact Blk.new _ _ _
  have hbA : Below w.heap.size w wA := by rw [← hwA]; exact ((Below.refl _ _).alloc (Nat.le_refl _) _).alloc (by simp) _
  have hsA : wA.heap.size = X + 2 := by rw [← hwA, ← hX]; simp
  have hlt : ∀ a, A = some a → a.block < X := fun a ha => by rw [← hX]; exact h.lt a ha
  have hc := node_any (X + 1) 16 A m c b 0 1024 wA (h.below hbA) hm (fun a ha => by have := hlt a ha; omega) (by omega) (by omega) (by omega) (by omega) bL
  have hmb := Lib.hid h.1
  have HB := Lib.hid (And.intro hbA (And.intro bA (And.intro hlt hsA)))
  have HANS := Lib.hid hans
  clear hbA bA bL h hlt hsA hans
  go_enter Try.func15, Try.ntmps15
  go_wp2_with fail
  try rw [hX]
  try rw [hwA]
  go_wp2_with fail
  refine hc.mono ?_
  rintro e wc ⟨hp, hBg, hT⟩
  clear hc
  have hXc := HB.out.2.1.turn hT (by simp)
  have hBc : Below w.heap.size w wc := below_turn HB.out.1 hT (fun t ht => by simp at ht; omega) HB.out.1.size
  have HC := Lib.hid (And.intro hXc (And.intro hBc hT))
  clear hXc hBc hBg hT hwA
  have bZ : Blk (wc.alloc (.cells #[.int .i64 0, .slice none 0 0, .slice none 0 0] 25)) wc.heap.size 25 #[.int .i64 0, .slice none 0 0, .slice none 0 0] := Blk.new _ _ _
  have HZ := Lib.hid bZ
  clear bZ
  cases hq : (decL 16 1024 b).1 with
  | none =>
    rw [hq] at hp
    obtain ⟨⟨tg, B1, n1, k1, B2, n2, k2⟩, A3, n3, c3, rfl⟩ := hp
    have HA2 := Lib.hid (show ans = none by rw [← HANS.out]; exact rdO_of_none hq)
    simp only [NF.val]
    go_wp2_with (first | (refine wpList_store_arr rfl 25 (.tmp 6) (.tmp 15) rfl wc.heap.size 25 _ [.int .i64 tg, .slice B1 n1 k1, .slice B2 n2 k2] HZ.out rfl rfl (by kernel_rfl) rfl rfl ?_; intro w5 hB5 hT5; have H5 := Lib.hid (And.intro hB5 (And.intro ((HC.out.1.alloc (.cells #[.int .i64 0, .slice none 0 0, .slice none 0 0] 25)).turn hT5 (by have := HC.out.1.lt; simp; omega)) (below_turn (HC.out.2.1.alloc HC.out.2.1.size (.cells #[.int .i64 0, .slice none 0 0, .slice none 0 0] 25)) hT5 (fun t ht => by simp at ht; subst ht; exact HC.out.2.1.size) (by have := HC.out.2.1.size; simp; omega)))); have y0 := hB5.cell 0; have y1 := hB5.cell 1; have y2 := hB5.cell 2; simp only [List.getElem?_toArray, List.getElem?_cons_succ, List.getElem?_cons_zero] at y0 y1 y2; have HT5 := Lib.hid hT5; clear hB5 hT5) | (refine wpList_store_arr rfl 25 (.tmp 2) (.tmp 28) rfl X 25 _ [.int .i64 0, .slice none 0 0, .slice none 0 0] H5.out.2.1 rfl rfl (by kernel_rfl) rfl rfl ?_; intro w9 hB9 hT9; have H9 := Lib.hid (And.intro hB9 hT9); clear hB9 hT9))
    refine bodyPost_ret (node_res (f := zNF) rfl rfl H9.out.1) rfl ?_
    rw [HA2.out]
    have hb9 : Below w.heap.size w w9 := below_turn H5.out.2.2 H9.out.2 (fun t ht => by simp at ht; omega) H5.out.2.2.size
    exact ⟨rfl, by first | exact hb9 | (rw [← hX]; exact hb9)⟩
  | some x =>
    obtain ⟨n, rest⟩ := x
    rw [hq] at hp
    obtain ⟨⟨tg, B1, n1, k1, B2, n2, k2⟩, A3, n3, c3, rfl, hN, hR, hF⟩ := hp
    obtain ⟨e1, e2, e3⟩ := rdO_of_some hq
    have hl3 := hR.1
    have HN := Lib.hid hN
    have hu : (m : Int) - n3 = (n.enc.length : Int) := by have := hmb.out; omega
    obtain ⟨u, hun⟩ : ∃ u, n.enc.length = u := ⟨_, rfl⟩
    rw [hun] at hu e3
    have HA3 := Lib.hid (And.intro (HANS.out.symm.trans e3) hun)
    clear hN hR hF e1 e2 e3 hl3 hun
    simp only [NF.val]
    by_cases h6 : 65536 < u
    · have t1 : (65536 : Int) < u := by omega
      have t1d : decide ((65536 : Int) < (u : Int)) = true := decide_eq_true t1
      have HA2 := Lib.hid (HA3.out.1.trans (if_neg (by omega)))
      go_wp2_with (first | (refine wpList_store_arr rfl 25 (.tmp 6) (.tmp 15) rfl wc.heap.size 25 _ [.int .i64 tg, .slice B1 n1 k1, .slice B2 n2 k2] HZ.out rfl rfl (by kernel_rfl) rfl rfl ?_; intro w5 hB5 hT5; have H5 := Lib.hid (And.intro hB5 (And.intro ((HC.out.1.alloc (.cells #[.int .i64 0, .slice none 0 0, .slice none 0 0] 25)).turn hT5 (by have := HC.out.1.lt; simp; omega)) (below_turn (HC.out.2.1.alloc HC.out.2.1.size (.cells #[.int .i64 0, .slice none 0 0, .slice none 0 0] 25)) hT5 (fun t ht => by simp at ht; subst ht; exact HC.out.2.1.size) (by have := HC.out.2.1.size; simp; omega)))); have y0 := hB5.cell 0; have y1 := hB5.cell 1; have y2 := hB5.cell 2; simp only [List.getElem?_toArray, List.getElem?_cons_succ, List.getElem?_cons_zero] at y0 y1 y2; have HT5 := Lib.hid hT5; clear hB5 hT5) | (refine wpList_store_arr rfl 25 (.tmp 2) (.tmp 28) rfl X 25 _ [.int .i64 0, .slice none 0 0, .slice none 0 0] H5.out.2.1 rfl rfl (by kernel_rfl) rfl rfl ?_; intro w9 hB9 hT9; have H9 := Lib.hid (And.intro hB9 hT9); clear hB9 hT9))
      refine bodyPost_ret (node_res (f := zNF) rfl rfl H9.out.1) rfl ?_
      rw [HA2.out]
      have hb9 : Below w.heap.size w w9 := below_turn H5.out.2.2 H9.out.2 (fun t ht => by simp at ht; omega) H5.out.2.2.size
      exact ⟨rfl, by first | exact hb9 | (rw [← hX]; exact hb9)⟩
    · have t1 : ¬ (65536 : Int) < u := by omega
      have t1d : decide ((65536 : Int) < (u : Int)) = false := decide_eq_false t1
      have HA2 := Lib.hid (HA3.out.1.trans (if_pos (by omega)))
      go_wp2_with (first | (refine wpList_store_arr rfl 25 (.tmp 6) (.tmp 15) rfl wc.heap.size 25 _ [.int .i64 tg, .slice B1 n1 k1, .slice B2 n2 k2] HZ.out rfl rfl (by kernel_rfl) rfl rfl ?_; intro w5 hB5 hT5; have H5 := Lib.hid (And.intro hB5 (And.intro ((HC.out.1.alloc (.cells #[.int .i64 0, .slice none 0 0, .slice none 0 0] 25)).turn hT5 (by have := HC.out.1.lt; simp; omega)) (below_turn (HC.out.2.1.alloc HC.out.2.1.size (.cells #[.int .i64 0, .slice none 0 0, .slice none 0 0] 25)) hT5 (fun t ht => by simp at ht; subst ht; exact HC.out.2.1.size) (by have := HC.out.2.1.size; simp; omega)))); have y0 := hB5.cell 0; have y1 := hB5.cell 1; have y2 := hB5.cell 2; simp only [List.getElem?_toArray, List.getElem?_cons_succ, List.getElem?_cons_zero] at y0 y1 y2; have HT5 := Lib.hid hT5; clear hB5 hT5) | (refine wpList_store_arr rfl 25 (.tmp 2) (.tmp 29) rfl X 25 _ [.int .i64 tg, .slice B1 n1 k1, .slice B2 n2 k2] H5.out.2.1 rfl rfl (by kernel_rfl) rfl rfl ?_; intro w9 hB9 hT9; have H9 := Lib.hid (And.intro hB9 hT9); clear hB9 hT9))
      refine bodyPost_ret (node_res (f := ⟨tg, B1, n1, k1, B2, n2, k2⟩) rfl rfl H9.out.1) rfl ?_
      rw [HA2.out]
      have hb9 : Below w.heap.size w w9 := below_turn H5.out.2.2 H9.out.2 (fun t ht => by simp at ht; omega) H5.out.2.2.size
      refine ⟨⟨⟨tg, B1, n1, k1, B2, n2, k2⟩, rfl, ?_⟩, by first | exact hb9 | (rw [← hX]; exact hb9)⟩
      have hsa : (wc.alloc (.cells #[.int .i64 0, .slice none 0 0, .slice none 0 0] 25)).heap.size = wc.heap.size + 1 := by simp
      have h59 := H9.out.2.size
      have h5 := HT5.out.size
      have hAs := HB.out.2.2.2
      refine (HN.out.keep (by omega) (fun b hb => ?_)).mono (fun b hb => ⟨by have := hb.1; omega, by have := hb.2; omega⟩) (fun _ h => h)
      exact (H9.out.2.block b (by have := hb.2; omega) (by have := hb.1; simp; omega)).trans ((HT5.out.block b (by have := hb.2; omega) (by have := hb.2; simp; omega)).trans (Below.heap_alloc wc _ b hb.2))
end Go.Proofs.Ytgkhhinjdojbhaa
