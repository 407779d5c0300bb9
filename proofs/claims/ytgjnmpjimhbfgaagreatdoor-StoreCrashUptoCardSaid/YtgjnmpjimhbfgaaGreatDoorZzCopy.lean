/-
  Contract of (*hashes.Hash).Write.
-/
import Derived.Test.YtgjnmpjimhbfgaaGreatDoorZzStart
import Derived.Test.YtgjnmpjimhbfgaaGreatDoorChunks
namespace Go.Proofs.YtgjnmpjimhbfgaaGreatDoor
set_option maxRecDepth 100000
open Go.RowKit
attribute [local go_sem] Oper.semAt_some
theorem wp_range1 (q j : Nat) {P : Program} {g : Operand} {ps : Array Tmp} {assign body : Code} {Q : Exit → Act → World → Prop} {a : Act} {w : World}
  {gf : Nat} {lb : Array Value} {Arg : Nat → Array Value → World → Prop} {Mine : Nat → World → Prop} {N : Nat} {T : List Nat}
  (hg : a.eval g = .func (.func gf) #[] lb) (eg : ∀ args w, (callFunc gf args).run P w = .ok (.enter gf args) w)
  (hit : Iter P gf lb Arg Mine N T) (hps : ∀ k args W, Arg k args W → args.size = ps.size) (hT : ∀ t ∈ T, t < w.heap.size)
  (I : Nat → World → Prop) (Ix : Code → Nat → World → Prop)
  (hI : ∀ k W1 W2 S, I k W1 → Turn S W1 W2 → (∀ t ∈ S, t ∈ T ∨ (t = w.heap.size + 1 ∧ ∃ r, W1.heap[t]? = some (.loop r))) → I k W2)
  (hIx : ∀ c k W1 W2 S, Ix c k W1 → Turn S W1 W2 → (∀ t ∈ S, t ∈ T ∨ (t = w.heap.size + 1 ∧ ∃ r, W1.heap[t]? = some (.loop r))) → Ix c k W2)
  (hM : ∀ k W1 W2, Mine k W1 → (∃ r, W1.heap[w.heap.size + 1]? = some (.loop r)) → Turn [w.heap.size + 1] W1 W2 → Mine k W2)
  (hA : ∀ k args W1 W2, Arg k args W1 → (∃ r, W1.heap[w.heap.size + 1]? = some (.loop r)) → Turn [w.heap.size + 1] W1 W2 → Arg k args W2)
  (h0 : I 0 w) (hM0 : Mine 0 w) (hM1 : ∀ W, Turn [] w W → Mine 0 W)
  (hassign : ∀ (l : Nat) (args : Array Value) (k : Nat) (W : World) (K : Act → World → Prop), Arg k args W →
   K { tmps := ((ps.zip args).foldl (fun t (p, v) => t.setIfInBounds p v) a.tmps).setIfInBounds q (args.getD j undef), defers := [] } W →
   assign.wpIn (Fence.wide.inRound l) 2 P (Exit.then K (fun _ _ _ => False)) { tmps := (ps.zip args).foldl (fun t (p, v) => t.setIfInBounds p v) a.tmps, defers := [] } W)
  (hbody : ∀ (l k : Nat) (args : Array Value) (W : World), k < N → w.heap.size + 1 < W.heap.size → I k W → Mine k W → Arg k args W →
   body.wpIn (Fence.wide.inRound l) 2 P (roundEnds w.heap.size I Ix Mine k W) { tmps := ((ps.zip args).foldl (fun t (p, v) => t.setIfInBounds p v) a.tmps).setIfInBounds q (args.getD j undef), defers := [] } W)
  (hdone : ∀ (W : World), w.heap.size + 1 < W.heap.size → I N W → W.heap[w.heap.size]? = some (.deferred (some [])) → Q .normal { a with defers := { target := .collected w.heap.size, args := #[] } :: a.defers } W)
  (hstop : ∀ (c : Code) (k : Nat) (W : World), w.heap.size + 1 < W.heap.size → k < N → Ix c k W → W.heap[w.heap.size]? = some (.deferred (some [])) → c.wp P Q { a with defers := { target := .collected w.heap.size, args := #[] } :: a.defers } W) :
  (Code.rangeFunc g ps assign body).wp P Q a w :=
 wp_range hg eg hit hps hT I Ix hI hIx hM hA h0 hM0 (fun W ht _ => hM1 W ht) (fun args => { tmps := ((ps.zip args).foldl (fun t (p, v) => t.setIfInBounds p v) a.tmps).setIfInBounds q (args.getD j undef), defers := [] })
  hassign hbody hdone hstop
theorem hcells_get9 (kind : Int) (hs : List UInt64) (v : Value) (x : UInt64) (h : hs.length = 8) : (hcells kind hs v x)[9]? = some v := by
 match hs, h with
 | [_, _, _, _, _, _, _, _], _ => rfl
theorem hcells_get10 (kind : Int) (hs : List UInt64) (v : Value) (x : UInt64) (h : hs.length = 8) : (hcells kind hs v x)[10]? = some (U64 x) := by
 match hs, h with
 | [_, _, _, _, _, _, _, _], _ => rfl
theorem hcells_set9 (kind : Int) (hs : List UInt64) (v u : Value) (x : UInt64) (h : hs.length = 8) : (hcells kind hs v x).setIfInBounds 9 u = hcells kind hs u x := by
 match hs, h with
 | [_, _, _, _, _, _, _, _], _ => rfl
def hsTo (kind : Int) (hs : List UInt64) (l : List UInt8) (B : Nat) : Nat → List UInt64
 | 0 => hs
 | k + 1 => takeK kind (hsTo kind hs l B k) (chunk l B k)
theorem hsTo_len (kind : Int) (hs : List UInt64) (l : List UInt8) (B k : Nat) (h : hs.length = 8) : (hsTo kind hs l B k).length = 8 := by
 induction k with
 | zero => exact h
 | succ k ih => exact takeK_len _ _ _ ih
def bl (kind : Int) : Nat := (hblock kind).toNat
theorem bl_cases (kind : Int) (h : 1 ≤ kind ∧ kind ≤ 5) : (hblock kind = 64 ∧ bl kind = 64) ∨ (hblock kind = 128 ∧ bl kind = 128) := by
 have hcase : kind = 1 ∨ kind = 2 ∨ kind = 3 ∨ kind = 4 ∨ kind = 5 := by omega
 rcases hcase with rfl | rfl | rfl | rfl | rfl <;> simp [hblock, bl]
def absorb (kind : Int) (hs : List UInt64) (l : List UInt8) : List UInt64 := hsTo kind hs l (bl kind) (l.length / bl kind)
def rest (kind : Int) (l : List UInt8) : List UInt8 := l.drop (l.length / bl kind * bl kind)
set_option maxHeartbeats 2000000 in
theorem write_any (d : Nat) (kind : Int) (hs : List UInt64) (wait : List UInt8) (n : UInt64) (wv : Value) (A : Option Addr) (m c : Nat) (l : List UInt8) (w : World) (h : HashAt w d kind hs wait n wv) (hl : Rd w A m c l) (hlen : wait.length + l.length ≤ 140737488355328)
  (hK : KAt w) (hdA : ∀ ad, A = some ad → ad.block ≠ d ∧ wv.ownBlock ≠ some ad.block) :
  Calls Tryz.prog 104 #[.pointer (some ⟨d, 0, none⟩), .slice A m c] w fun e w' => e = .returned (.tuple #[]) ∧
   (∃ wv', HashAt w' d kind (absorb kind hs (wait ++ l)) (rest kind (wait ++ l)) (n + UInt64.ofNat l.length) wv' ∧ (∀ g, wv'.ownBlock = some g → w.heap.size ≤ g)) ∧ Turn (d :: wv.ownBlock.toList) w w' := by
 have hbc := bl_cases kind h.kindOk
 obtain ⟨hk, hB, h8, hO, hd0⟩ := h
 obtain ⟨Aw, cw, rfl, hRw, _⟩ := hO.shape
 have hdl := hB.lt
 have hdw : (Value.slice Aw wait.length cw).ownBlock ≠ some d := hO.ne hB (by decide)
 have hal : Below w.heap.size w (w.alloc (.cells #[.pointer (some ⟨d, 0, none⟩)] 144)) := (Below.refl _ _).alloc (Nat.le_refl _) _
 have hbx : Blk (w.alloc (.cells #[.pointer (some ⟨d, 0, none⟩)] 144)) w.heap.size 144 #[.pointer (some ⟨d, 0, none⟩)] := Blk.new w _ _
 have hB1 := hB.below hal
 have hcn : hcells kind hs (.slice Aw wait.length cw) n = (.int .i64 kind :: (hs.map U64 ++ [.slice Aw wait.length cw, U64 n])).toArray := rfl
 have n10 : ∀ (v : Value) (x : UInt64), (hcells kind hs v x)[10]? = some (U64 x) := by
  intro v x
  match hs, h8 with
  | [_, _, _, _, _, _, _, _], _ => rfl
 have n9 : ∀ (v : Value) (x : UInt64), (hcells kind hs v x)[9]? = some v := by
  intro v x
  match hs, h8 with
  | [_, _, _, _, _, _, _, _], _ => rfl
 have s10 : ∀ (v : Value) (x y : UInt64), (hcells kind hs v x).setIfInBounds 10 (U64 y) = hcells kind hs v y := by
  intro v x y
  match hs, h8 with
  | [_, _, _, _, _, _, _, _], _ => rfl
 have s9 : ∀ (v u : Value) (x : UInt64), (hcells kind hs v x).setIfInBounds 9 u = hcells kind hs u x := by
  intro v u x
  match hs, h8 with
  | [_, _, _, _, _, _, _, _], _ => rfl
 have hcv : ∀ w : World, (convert 3 131 (.int .i64 (m : Int))).run Tryz.prog w = .ok (U64 (UInt64.ofNat m)) w := fun w => by
  rw [conv_int w .u64 Tryz.underlying3 Tryz.underlying131, wrap_u64, ← U64_eq (x := UInt64.ofNat m)]
  rw [UInt64.toNat_ofNat']; omega
 have c0 := hB1.cell 0
 have c9 := (hB1.cell 9).trans (n9 _ _)
 have c10 := (hB1.cell 10).trans (n10 _ _)
 have f10 := hB1.frozen 10
 have cb := hbx.cell 0
 simp only [hcells, List.getElem?_toArray, List.getElem?_cons_zero] at c0 cb
 have hm := hl.1
 have hT2 : Turn [d] w ((w.alloc (.cells #[.pointer (some ⟨d, 0, none⟩)] 144)).setCell ⟨d, 10, none⟩ (U64 (n + UInt64.ofNat m))) := (Turn.of_below [d] hal).setCell (.inl (by simp)) _
 have hO2 := hO.turn hT2 (fun g hg hm => by simp at hm; subst hm; exact hdw hg)
 have hR2 := hl.turn hT2 (fun ad had hm => (hdA ad had).1 (by simpa using hm))
 have hB2 := hB1.set_ 10 (U64 (n + UInt64.ofNat m))
 rw [s10] at hB2
 have hbx2 := hbx.far (p := ⟨d, 10, none⟩) (show w.heap.size ≠ d by omega) (U64 (n + UInt64.ofNat m))
 have hz2 : ((w.alloc (.cells #[.pointer (some ⟨d, 0, none⟩)] 144)).setCell ⟨d, 10, none⟩ (U64 (n + UInt64.ofNat m))).heap.size = w.heap.size + 1 := by simp [World.setCell]
 have HBS := Lib.hid (Nat.le_trans (show 1 + 1 ≤ w.heap.size + 1 from by have := hK.1; omega) (Nat.le_of_eq hz2.symm))
 have H2 := Lib.hid (And.intro hT2 (And.intro hO2 (And.intro hR2 (And.intro hB2 (And.intro hbx2 hz2)))))
 have HH := Lib.hid (And.intro hk (And.intro h8 (And.intro hd0 (And.intro hdw (And.intro hO (And.intro hl (And.intro hB hdl)))))))
 have HS := Lib.hid (And.intro n10 (And.intro n9 (And.intro s10 s9)))
 have HK := Lib.hid hK
 have HA := Lib.hid hdA
 have HL := Lib.hid hlen
 have HBC := Lib.hid hbc
 have Hm := Lib.hid hm
 clear hT2 hO2 hR2 hB2 hbx2 hz2 hk h8 hd0 hdw hO hl hB hdl n10 n9 s10 s9 hK hdA hlen hbc hal hbx hB1 hcn hRw hm
 refine calls_of_marks Tryz.func104 rfl ?_
 simp only [Tryz.ntmps104, List.size_toArray, List.length_cons, List.length_nil, Nat.reduceAdd, Nat.reduceSub, Array.replicate_succ, Array.replicate_zero, List.push_toArray, List.append_toArray, List.nil_append, List.cons_append]
 go_wp2_with (first
  | (at_builtin; refine wp_app rfl _ _ rfl (1 + 1) (.slice Aw wait.length cw) wait rfl H2.out.2.1 A m c l rfl H2.out.2.2.1 HL.out HBS.out ?_; intro va w3 hoa hga hna hba; obtain ⟨all, hall⟩ : ∃ all, wait ++ l = all := ⟨_, rfl⟩; rw [hall] at hoa; have Hall := Lib.hid hall; clear hall; have hT3 := Turn.of_grown hga; have hB3 := H2.out.2.2.2.1.turn hT3 (by intro hm; simp at hm; exact HH.out.2.2.2.1 hm); have hx3 := H2.out.2.2.2.2.1.turn hT3 (by intro hm; simp at hm; have := (HH.out.2.2.2.2.1.lt hm).2; omega); clear c0 c9 c10 f10 cb; have c0 := hB3.cell 0; have c9 := (hB3.cell 9).trans (HS.out.2.1 _ _); have f9 := hB3.frozen 9; have cb := hx3.cell 0; simp only [hcells, List.getElem?_toArray, List.getElem?_cons_zero] at c0 cb; obtain ⟨Aa, ca, rfl, hRa, _⟩ := hoa.shape; have HO3 := Lib.hid (And.intro hT3 (And.intro hB3 (And.intro hx3 (And.intro hoa (And.intro hna (And.intro hba hRa)))))); clear hT3 hB3 hx3 hoa hna hba hga hRa)
  | (go_at_call 132; refine (block_any kind _).mono ?_; rintro e w' ⟨rfl, rfl⟩)
  | (go_at_call 131; refine (chunksOf_any _ _ _ _ _).mono ?_; rintro e w4 ⟨rfl, rfl⟩))
 obtain ⟨hT3, hB3, hx3, hoa, hna, hba, hRa⟩ := HO3.out
 have hz3 : w.heap.size + 1 ≤ w3.heap.size := by have := hT3.size; rw [H2.out.2.2.2.2.2] at this; exact this
 have hdl : d < w.heap.size := HH.out.2.2.2.2.2.2.2
 have hwl : ∀ g, (Value.slice Aw wait.length cw).ownBlock = some g → g < w.heap.size := fun g hg => (HH.out.2.2.2.2.1.lt hg).2
 have hal3 : ∀ g, (Value.slice Aa all.length ca).ownBlock = some g → g < w3.heap.size := fun g hg => (hoa.lt hg).2
 have hda : ∀ g, (Value.slice Aa all.length ca).ownBlock = some g → g ≠ d := fun g hg he => by subst he; exact hoa.ne hB3 (by decide) hg
 have hT4 : Turn (d :: (Value.slice Aw wait.length cw).ownBlock.toList) w (((w3.setCell ⟨d, 9, none⟩ (.slice none 0 0)).alloc (.cells #[.slice Aa all.length ca] 32)).alloc (.cells #[.int .i64 (hblock kind)] 3)) := by
  have h1 : Turn (d :: (Value.slice Aw wait.length cw).ownBlock.toList) w w3 := (H2.out.1.more (fun x hx => by simp at hx; simp [hx])).trans hT3 (fun x hx => .inl (List.mem_cons_of_mem _ hx))
  exact ((h1.setCell (.inl (by simp)) _).alloc _).alloc _
 have hB4 := hB3.set_ 9 (.slice none 0 0)
 rw [HS.out.2.2.2] at hB4
 have hx4 := hx3.far (p := ⟨d, 9, none⟩) (show w.heap.size ≠ d by omega) (.slice none 0 0)
 have hs4 : (w3.setCell ⟨d, 9, none⟩ (.slice none 0 0)).heap.size = w3.heap.size := by simp [World.setCell]
 have hR4 := hRa.turn ((Turn.refl [d] w3).setCell (p := ⟨d, 9, none⟩) (.inl (by simp)) (.slice none 0 0)) (fun ad had hm => by subst had; simp at hm; exact hda _ rfl hm)
 have hb5 : Blk (((w3.setCell ⟨d, 9, none⟩ (.slice none 0 0)).alloc (.cells #[.slice Aa all.length ca] 32)).alloc (.cells #[.int .i64 (hblock kind)] 3)) w3.heap.size 32 #[.slice Aa all.length ca] := by
  have := (Blk.new (w3.setCell ⟨d, 9, none⟩ (.slice none 0 0)) 32 #[.slice Aa all.length ca]).alloc (.cells #[.int .i64 (hblock kind)] 3)
  rwa [hs4] at this
 have hn5 : Blk (((w3.setCell ⟨d, 9, none⟩ (.slice none 0 0)).alloc (.cells #[.slice Aa all.length ca] 32)).alloc (.cells #[.int .i64 (hblock kind)] 3)) (w3.heap.size + 1) 3 #[.int .i64 (hblock kind)] := by
  have := Blk.new ((w3.setCell ⟨d, 9, none⟩ (.slice none 0 0)).alloc (.cells #[.slice Aa all.length ca] 32)) 3 #[.int .i64 (hblock kind)]
  simpa [hs4] using this
 have hbel5 : Below w3.heap.size (w3.setCell ⟨d, 9, none⟩ (.slice none 0 0)) (((w3.setCell ⟨d, 9, none⟩ (.slice none 0 0)).alloc (.cells #[.slice Aa all.length ca] 32)).alloc (.cells #[.int .i64 (hblock kind)] 3)) := ((Below.refl _ _).alloc (by rw [hs4]; exact Nat.le_refl _) _).alloc (by simp [hs4]) _
 have hbel5' : Below (w3.setCell ⟨d, 9, none⟩ (.slice none 0 0)).heap.size (w3.setCell ⟨d, 9, none⟩ (.slice none 0 0)) (((w3.setCell ⟨d, 9, none⟩ (.slice none 0 0)).alloc (.cells #[.slice Aa all.length ca] 32)).alloc (.cells #[.int .i64 (hblock kind)] 3)) := by rw [hs4]; exact hbel5
 have hB5 := hB4.below hbel5'
 have hx5 := hx4.below hbel5'
 have hR5 := hR4.below hbel5'
 have hz5 : (((w3.setCell ⟨d, 9, none⟩ (.slice none 0 0)).alloc (.cells #[.slice Aa all.length ca] 32)).alloc (.cells #[.int .i64 (hblock kind)] 3)).heap.size = w3.heap.size + 2 := by simp [hs4]
 have hK5 := HK.out.turn hT4 (by
  have := HK.out.1
  intro hm
  simp at hm
  rcases hm with hm | hm
  ·exact HH.out.2.2.1 hm.symm
  ·have := (HH.out.2.2.2.2.1.lt hm).1; omega)
 revert hT4 hb5 hn5 hB5 hx5 hR5 hz5 hK5
 clear hB4 hx4 hR4 hbel5 hbel5' c0 c9 f9 cb HO3 H2 hT3 hB3 hx3 hRa
 generalize (((w3.setCell ⟨d, 9, none⟩ (.slice none 0 0)).alloc (.cells #[.slice Aa all.length ca] 32)).alloc (.cells #[.int .i64 (hblock kind)] 3)) = w5
 intro hT4 hb5 hn5 hB5 hx5 hR5 hz5 hK5
 obtain ⟨src, hsA, hsb, hsd, hsl⟩ : ∃ src, (∀ ad, Aa = some ad → ad.block = src) ∧ src ≠ w3.heap.size ∧ src ≠ d ∧ src < w3.heap.size := by
  cases Aa with
  | none => exact ⟨w.heap.size, fun ad h => (by cases h), by omega, by omega, by omega⟩
  | some ad =>
   have hlt := hal3 ad.block (by simp [Value.ownBlock])
   exact ⟨ad.block, fun ad' h => by cases h; rfl, by omega, hda _ (by simp [Value.ownBlock]), hlt⟩
 have hall : wait.length + l.length = all.length := by rw [← Hall.out]; simp
 have HLL := HL.out
 rw [hall] at HLL
 have hblk : hblock kind = ((bl kind : Nat) : Int) := by rcases HBC.out with ⟨h1, h2⟩ | ⟨h1, h2⟩ <;> rw [h1, h2] <;> rfl
 have hbl : 64 ≤ bl kind ∧ bl kind ≤ 128 := by rcases HBC.out with ⟨h1, h2⟩ | ⟨h1, h2⟩ <;> rw [h2] <;> omega
 rw [hblk] at hn5
 simp only [hblk]
 have Hab := Lib.hid (show absorb kind hs all = hsTo kind hs all (bl kind) (all.length / bl kind) from rfl)
 have Hre := Lib.hid (show rest kind all = all.drop (all.length / bl kind * bl kind) from rfl)
 generalize bl kind = BL at *
 have hBn : 1 ≤ BL := by omega
 have HB := Lib.hid (And.intro hblk hbl)
 clear hblk hbl HBC hba hna hal3 hoa hall
 have Hw5 := Lib.hid (And.intro hz5 (And.intro hz3 (And.intro hdl (And.intro hsd (And.intro hsl hsb)))))
 have fin : ∀ (W : World) (pv : Value), Blk W d 168 (hcells kind (absorb kind hs all) pv (n + UInt64.ofNat m)) → Own W w.heap.size pv (rest kind all) → Turn (d :: (Value.slice Aw wait.length cw).ownBlock.toList) w W → ∀ o : Obj, (∃ r, W.heap[w5.heap.size]? = some (.deferred r)) →
   (∃ wv', HashAt (W.putObj w5.heap.size o) d kind (absorb kind hs (wait ++ l)) (rest kind (wait ++ l)) (n + UInt64.ofNat l.length) wv' ∧ ∀ (g : Nat), wv'.ownBlock = some g → w.heap.size ≤ g) ∧
    Turn (d :: (Value.slice Aw wait.length cw).ownBlock.toList) w (W.putObj w5.heap.size o) := by
  rintro W pv hB hO hT o ⟨r, hr⟩
  have := Hw5.out
  have hT' := (Turn.refl [w5.heap.size] W).putObj (l := w5.heap.size) (.inl (by simp)) o
  rw [Hall.out, ← Hm.out]
  refine ⟨⟨pv, ⟨HH.out.1, hB.turn hT' (by simp; omega), ?_, (hO.turn hT' ?_).mono (by have := HK.out.1; omega), HH.out.2.2.1⟩, fun g hg => (hO.lt hg).1⟩, hT.trans hT' (fun x hx => .inr (by simp at hx; omega))⟩
  ·exact hsTo_len _ _ _ _ _ HH.out.2.1
  ·intro g hg hm
   simp at hm; subst hm
   refine hO.notin ?_ hg
   intro cs hcs
   rw [hr] at hcs; cases hcs
 have Fin := Lib.hid fin
 clear fin
 refine wp_range1 6 1 (gf := 153) (lb := #[.pointer (some ⟨w3.heap.size + 1, 0, none⟩), .pointer (some ⟨w3.heap.size, 0, none⟩)]) (T := [w3.heap.size]) rfl (fun _ _ => by kernel_rfl)
  (chunks_iter (w3.heap.size + 1) w3.heap.size src w.heap.size hsb all BL hBn (by have := HB.out; omega) HLL) (fun k args W h => by obtain ⟨g, c, rfl, _⟩ := h; rfl) (by simp; omega)
  (fun k W => k * BL ≤ all.length ∧ Blk W d 168 (hcells kind (hsTo kind hs all BL k) (.slice none 0 0) (n + UInt64.ofNat m)) ∧ Blk W w.heap.size 144 #[.pointer (some ⟨d, 0, none⟩)] ∧ Turn (d :: (Value.slice Aw wait.length cw).ownBlock.toList) w W ∧ KAt W)
  (fun c k W => c = .ret ∧ ∃ pv, (chunk all BL k).length < BL ∧ k * BL ≤ all.length ∧ Blk W d 168 (hcells kind (hsTo kind hs all BL k) pv (n + UInt64.ofNat m)) ∧ Own W w.heap.size pv (chunk all BL k) ∧ (∀ g, pv.ownBlock = some g → g ≠ w3.heap.size) ∧ Turn (d :: (Value.slice Aw wait.length cw).ownBlock.toList) w W)
  ?hI ?hIx ?hM ?hA ⟨by omega, hB5, hx5, hT4, hK5⟩ ?hM0 ?hM1 ?hassign ?hbody ?hdone ?hstop
 case hI =>
  rintro k W1 W2 S ⟨h1, h2, h3, h4, h5⟩ ht hS
  have hS' : ∀ t ∈ S, w.heap.size < t := by
   intro t h
   have := Hw5.out
   rcases hS t h with h | ⟨h, _⟩
   ·simp at h; omega
   ·omega
  exact ⟨h1, h2.turn ht (fun h => by have := hS' _ h; omega), h3.turn ht (fun h => by have := hS' _ h; omega), h4.trans ht (fun x hx => .inr (by have := hS' _ hx; omega)), h5.turn ht (fun h => by have := hS' _ h; omega)⟩
 case hIx =>
  rintro c k W1 W2 S ⟨rfl, pv, h0, h1, h2, h3, hpv, h4⟩ ht hS
  have hS' : ∀ t ∈ S, w.heap.size < t := by
   intro t h
   have := Hw5.out
   rcases hS t h with h | ⟨h, _⟩
   ·simp at h; omega
   ·omega
  refine ⟨rfl, pv, h0, h1, h2.turn ht (fun h => by have := hS' _ h; omega), h3.turn ht ?_, hpv, h4.trans ht (fun x hx => .inr (by have := hS' _ hx; omega))⟩
  intro g hg hm
  rcases hS g hm with h | ⟨h, r, hr⟩
  ·simp at h; exact hpv g hg h
  ·exact h3.notin (noRow_loop hr) hg
 case hM =>
  rintro k W1 W2 ⟨h1, h2, A, m, c, h3, h4, h5⟩ ⟨r, hr⟩ ht
  have := Hw5.out
  exact ⟨h1.turn ht (by simp; omega), Nat.le_trans h2 ht.size, A, m, c, h3.turn ht (by simp; omega), h4.turn ht (fun ad had hm => by have := h5 ad had; simp at hm; omega), h5⟩
 case hA =>
  rintro k args W1 W2 ⟨g, c, rfl, ho⟩ ⟨r, hr⟩ ht
  exact ⟨g, c, rfl, ho.turn ht (fun g' hg hm => by simp at hm; subst hm; exact ho.notin (noRow_loop hr) hg)⟩
 case hM0 => exact ⟨hn5, by have := Hw5.out; omega, Aa, _, ca, hb5, by simpa using hR5, hsA⟩
 case hM1 =>
  intro W ht
  exact ⟨hn5.turn ht (by simp), by have := Hw5.out; have := ht.size; omega, Aa, _, ca, hb5.turn ht (by simp), by simpa using hR5.turn ht (by simp), hsA⟩
 case hassign =>
  rintro l' args k W K ⟨g, c, rfl, _⟩ hK
  simp at hK
  gi_wp2
  exact hK
 case hbody =>
  rintro l' k args W hkN hlt ⟨h1, h2, h3, h4, h5⟩ hMi ⟨g, c, rfl, ho⟩
  have d0 := h2.cell 0
  have d9 := (h2.cell 9).trans (hcells_get9 _ _ _ _ (hsTo_len kind hs all BL k HH.out.2.1))
  have f9 := h2.frozen 9
  have cb := h3.cell 0
  simp only [hcells, List.getElem?_toArray, List.getElem?_cons_zero] at d0 cb
  have hBlk := Lib.hid (block_any kind)
  rw [HB.out.1] at hBlk
  have hkn := (chunks_lt all BL k hBn).1 hkN
  have hcl := chunk_len all BL k
  have hpl : (chunk all BL k).length ≤ BL := by omega
  obtain ⟨pl, hpe⟩ : ∃ pl, (chunk all BL k).length = pl := ⟨_, rfl⟩
  rw [hpe] at hpl ho ⊢
  have Hb := Lib.hid (And.intro h1 (And.intro h2 (And.intro h3 (And.intro h4 (And.intro h5 (And.intro ho (And.intro hpe (And.intro hkn hcl))))))))
  have HMi := Lib.hid hMi
  clear h1 h2 h3 h4 h5 ho hpe hkn hcl hMi
  rcases Nat.lt_or_ge pl BL with hlt2 | hge2
  ·have hli : (pl : Int) < BL := by omega
   clear hlt2 hpl
   gi_wp2_with (refine ⟨trivial, ?_⟩; gi_at_call 132; refine (callsIn_wide.2 (hBlk.out _)).mono ?_; rintro e w' ⟨rfl, rfl⟩)
   obtain ⟨h1, h2, h3, h4, h5, ho, hpe, hkn, hcl⟩ := Hb.out
   obtain ⟨_, _, A', m', c', hbb, _⟩ := HMi.out
   have hT := (Turn.refl [d] W).setCell (p := ⟨d, 9, none⟩) (.inl (by simp)) (.slice (some ⟨g, 0, none⟩) pl c)
   have := Hw5.out
   refine ⟨⟨[d], hT, by simp; omega, by simp; omega⟩, rfl, .slice (some ⟨g, 0, none⟩) pl c, by omega, h1, ?_, ho.turn hT (fun g' hg hm => ?_), fun g' hg he => ?_, h4.trans hT (fun x hx => .inl (by simp at hx; simp [hx]))⟩
   ·have := h2.set_ 9 (.slice (some ⟨g, 0, none⟩) pl c)
    rwa [hcells_set9 _ _ _ _ _ (hsTo_len kind hs all BL k HH.out.2.1)] at this
   ·simp at hm; subst hm; exact ho.ne h2 (by decide) hg
   ·subst he; exact ho.ne hbb (by decide) hg
  ·obtain rfl : pl = BL := by omega
   have hli : ¬ ((pl : Int) < pl) := by omega
   have hC := Lib.hid (take_any d kind (hsTo kind hs all pl k) (.slice none 0 0) (n + UInt64.ofNat m) g 0 c pl (chunk all pl k) W Hb.out.2.1 (hsTo_len kind hs all pl k HH.out.2.1)
    (by have := Hb.out.2.2.2.2.2.1; exact this.at_) Hb.out.2.2.2.2.2.2.1.symm (by rw [Hb.out.2.2.2.2.2.2.1, HB.out.1]) HH.out.1 (by have := Hb.out.2.2.2.2.2.1.blk; omega) (by have := Hb.out.2.2.2.2.2.1.blk; omega) Hb.out.2.2.2.2.1 HH.out.2.2.1)
   clear hge2 hpl
   gi_wp2_with (first
    | (refine ⟨trivial, ?_⟩; gi_at_call 132; refine (callsIn_wide.2 (hBlk.out _)).mono ?_; rintro e w' ⟨rfl, rfl⟩)
    | (refine ⟨trivial, ?_⟩; gi_at_call 133; refine (callsIn_wide.2 hC.out).mono ?_; rintro e w6 ⟨rfl, hB6, hT6⟩))
   obtain ⟨h1, h2, h3, h4, h5, ho, hpe, hkn, hcl⟩ := Hb.out
   obtain ⟨hm1, hm2, A', m', c', hbb, hm4, hm5⟩ := HMi.out
   have := Hw5.out
   refine ⟨⟨[d], hT6, by simp; omega, by simp; omega⟩, ⟨?_, hB6, h3.turn hT6 (by simp; omega), h4.trans hT6 (fun x hx => .inl (by simp at hx; simp [hx])), h5.turn hT6 (by simp; exact fun h => HH.out.2.2.1 h.symm)⟩,
    hm1.turn hT6 (by simp; omega), Nat.le_trans hm2 hT6.size, A', m', c', hbb.turn hT6 (by simp; omega), hm4.turn hT6 (fun ad had hm => by have := hm5 ad had; simp at hm; omega), hm5⟩
   rw [Nat.add_mul, Nat.one_mul]; omega
 case hdone =>
  rintro W hlt ⟨h1, h2, h3, h4, h5⟩ hK
  clear hz5
  go_wp2_with fail
  have hN : chunks all BL = all.length / BL ∧ all.length / BL * BL = all.length := by
   unfold chunks at h1 ⊢
   have e1 := Nat.div_mul_le_self all.length BL
   have e2 : all.length / BL ≤ (all.length + BL - 1) / BL := Nat.div_le_div_right (by omega)
   have e3 := Nat.mul_le_mul_right BL e2
   have e4 : (all.length + BL - 1) / BL ≤ all.length / BL := by
    rw [Nat.le_div_iff_mul_le (by omega)]; exact h1
   have e5 := Nat.le_antisymm e4 e2
   have e6 : all.length ≤ (all.length + BL - 1) / BL * BL := by
    have := Nat.lt_div_mul_add (a := all.length + BL - 1) (b := BL) (by omega)
    omega
   rw [e5] at e6 ⊢
   exact ⟨rfl, by omega⟩
  refine ret_mark rfl hK (fun W' => results_none rfl _ _ W') ?_
  refine ⟨rfl, Fin.out W (.slice none 0 0) (by rw [Hab.out, ← hN.1]; exact h2) (by rw [Hre.out, hN.2, List.drop_length]; exact World.ownsRow_nil _ _ _ _) h4 _ ⟨_, hK⟩⟩
 case hstop =>
  rintro c k W hlt hkN ⟨rfl, pv, h0, h1, h2, h3, hpv, h4⟩ hK
  clear hz5
  go_wp2_with fail
  have hkn := (chunks_lt all BL k hBn).1 hkN
  have hcl := chunk_len all BL k
  have hk : all.length / BL = k := by
   apply Nat.div_eq_of_lt_le
   ·exact h1
   ·rw [Nat.add_mul, Nat.one_mul]; omega
  refine ret_mark rfl hK (fun W' => results_none rfl _ _ W') ?_
  refine ⟨rfl, Fin.out W pv (by rw [Hab.out, hk]; exact h2) ?_ h4 _ ⟨_, hK⟩⟩
  rw [Hre.out, hk]
  have : chunk all BL k = all.drop (k * BL) := by unfold chunk; exact List.take_of_length_le (by rw [List.length_drop]; omega)
  rw [← this]; exact h3
end Go.Proofs.YtgjnmpjimhbfgaaGreatDoor
namespace Go.Proofs.YtgjnmpjimhbfgaaGreatDoor
set_option maxRecDepth 100000
open Go.RowKit
theorem clone_own (v : Value) (l : List UInt8) (w : World) (base : Nat) (h : Own w base v l) (hl : l.length ≤ 140737488355328) :
  Calls Tryz.prog 43 #[v] w fun e w' => ∃ v', e = .returned v' ∧ Own w' w.heap.size v' l ∧ Below w.heap.size w w' := by
 obtain ⟨A, c, rfl, hr, _⟩ := h.shape
 obtain ⟨h1, h2, h3, ⟨rfl, hc⟩ | ⟨b, off, rfl, hat⟩⟩ := hr
 ·have hz : l.length = 0 := by omega
  obtain rfl : l = [] := List.length_eq_zero_iff.1 hz
  subst hc
  exact (clone_nil w).mono fun e w' ⟨he, hw⟩ => ⟨_, he, World.ownsRow_nil _ _ _ _, hw ▸ Below.refl _ _⟩
 ·exact (clone_any b off l.length c l w hat rfl hl).mono fun e w' ⟨g, c', he, ho, hb⟩ => ⟨_, he, ho, hb⟩
theorem copy_any (d : Nat) (kind : Int) (hs : List UInt64) (wait : List UInt8) (n : UInt64) (wv : Value) (w : World) (h : HashAt w d kind hs wait n wv) (hl : wait.length ≤ 140737488355328) (hK : KAt w) :
  Calls Tryz.prog 134 #[.pointer (some ⟨d, 0, none⟩)] w fun e w' => ∃ d' wv', e = .returned (.pointer (some ⟨d', 0, none⟩)) ∧ w.heap.size ≤ d' ∧ HashAt w' d' kind hs wait n wv' ∧
   (∀ g, wv'.ownBlock = some g → w.heap.size ≤ g) ∧ Below w.heap.size w w' := by
 obtain ⟨hk, hB, h8, hO, hd0⟩ := h
 have hsz : (hcells kind hs wv n).size = 11 := by simp [hcells, h8]
 have hi : (Tryz.prog.info? 168).map (·.size) = some (hcells kind hs wv n).size := by rw [hsz]; kernel_rfl
 have hone : (hcells kind hs wv n).toList.all (·.oneCell') = true := by
  obtain ⟨A, c, rfl, _⟩ := hO.shape
  match hs, h8 with
  | [_, _, _, _, _, _, _, _], _ => rfl
 obtain ⟨A, c, rfl, hr, _⟩ := hO.shape
 have H := Lib.hid (And.intro hk (And.intro hB (And.intro h8 (And.intro hO (And.intro hd0 (And.intro hi hone))))))
 have HK := Lib.hid hK
 have hdl := hB.lt
 have c9 := (hB.cell 9).trans (hcells_get9 kind hs _ n h8)
 clear hk hB h8 hO hd0 hi hone hr hK hsz
 go_enter Tryz.func134, Tryz.ntmps134
 go_wp2_with (first
  | (refine wpList_load_arr rfl 168 _ rfl d 168 _ H.out.2.1 rfl _ Tryz.underlying168 rfl H.out.2.2.2.2.2.1 ?_)
  | (refine wpList_store_arr rfl 168 (.tmp 3) _ rfl w.heap.size 168 #[.int .i64 0, .int .u64 0, .int .u64 0, .int .u64 0, .int .u64 0, .int .u64 0, .int .u64 0, .int .u64 0, .int .u64 0, .slice none 0 0, .int .u64 0] (.int .i64 kind :: (hs.map U64 ++ [.slice A wait.length c, U64 n])) (Blk.new w 168 #[.int .i64 0, .int .u64 0, .int .u64 0, .int .u64 0, .int .u64 0, .int .u64 0, .int .u64 0, .int .u64 0, .int .u64 0, .slice none 0 0, .int .u64 0]) rfl rfl H.out.2.2.2.2.2.1 (by simp [H.out.2.2.1]) H.out.2.2.2.2.2.2 ?_; intro w3 hB3 hT3; have hbel : Below w.heap.size w w3 := below_turn ((Below.refl _ w).alloc (Nat.le_refl _) (.cells #[.int .i64 0, .int .u64 0, .int .u64 0, .int .u64 0, .int .u64 0, .int .u64 0, .int .u64 0, .int .u64 0, .int .u64 0, .slice none 0 0, .int .u64 0] 168)) hT3 (by simp) (by simp); clear hT3; replace c9 := (hbel.cell (p := ⟨d, 9, none⟩) hdl).trans c9; have hO3 := H.out.2.2.2.1.below hbel; have HC := Lib.hid (clone_own _ _ _ _ hO3 hl); have f9 := hB3.frozen 9; have b9 := (hB3.cell 9).trans (hcells_get9 kind hs (.slice A wait.length c) n H.out.2.2.1); have H3 := Lib.hid (And.intro hB3 hbel); clear hB3 hO3)
  | (go_at_call 43; refine HC.out.mono ?_; rintro e w4 ⟨v4, rfl, ho4, hb4⟩; have f9 := (hb4.frozen (p := ⟨w.heap.size, 9, none⟩) H3.out.1.lt).trans f9; have b9 := (hb4.cell (p := ⟨w.heap.size, 9, none⟩) H3.out.1.lt).trans b9; obtain ⟨A4, c4, rfl, _, _⟩ := ho4.shape))
 go_ret
 obtain ⟨hk, hB, h8, hO, hd0, hi, hone⟩ := H.out
 obtain ⟨hB3, hbel⟩ := H3.out
 have hs3 : w.heap.size < w3.heap.size := hB3.lt
 have hB4 := (hB3.below hb4).set_ 9 (.slice A4 wait.length c4)
 have hB4' : Blk (w4.setCell ⟨w.heap.size, 9, none⟩ (.slice A4 wait.length c4)) w.heap.size 168 (hcells kind hs (.slice A4 wait.length c4) n) := by
  have e := hcells_set9 kind hs (.slice A wait.length c) (.slice A4 wait.length c4) n h8
  rw [← e]; exact hB4
 have hne : ∀ g, (Value.slice A4 wait.length c4).ownBlock = some g → w3.heap.size ≤ g := fun g hg => (ho4.lt hg).1
 refine ⟨w.heap.size, _, rfl, Nat.le_refl _, ⟨hk, hB4', h8, ?_, by have := HK.out.1; omega⟩, fun g hg => by have := hne g hg; omega, ?_⟩
 ·exact (ho4.turn ((Turn.refl [w.heap.size] w4).setCell (p := ⟨w.heap.size, 9, none⟩) (.inl (by simp)) _) (fun g hg hm => by have := hne g hg; simp at hm; omega)).mono (by omega)
 ·exact (hbel.trans (hb4.mono (by omega))).setCell (Nat.le_refl _) _
end Go.Proofs.YtgjnmpjimhbfgaaGreatDoor
