/-
  Contracts of hashes.start and New.
  A range over a function, by rounds that are counted: a law for the statement, and what is asked of the iterator. Over any program.
-/
import Derived.Test.YtddemlajfbagdaaDoorZzRegT
import Derived.Test.YtddemlajfbagdaaDoorBase
import Derived.RangeFuncNested
import Derived.RangeFuncLeaves
namespace Go.Proofs.YtddemlajfbagdaaDoor
open Go.RowKit

def one8 : List UInt64 := [0x6a09e667f3bcc908, 0xbb67ae8584caa73b, 0x3c6ef372fe94f82b, 0xa54ff53a5f1d36f1, 0x510e527fade682d1, 0x9b05688c2b3e6c1f, 0x1f83d9abfb41bd6b, 0x5be0cd19137e2179]
def two8 : List UInt64 := [0xcbbb9d5dc1059ed8, 0x629a292a367cd507, 0x9159015a3070dd17, 0x152fecd8f70e5939, 0x67332667ffc00b31, 0x8eb44a8768581511, 0xdb0c2e0d64f98fa7, 0x47b5481dbefa4fa4]
def sha18 : List UInt64 := [0x67452301, 0xefcdab89, 0x98badcfe, 0x10325476, 0xc3d2e1f0, 0, 0, 0]
/-- The first state of a kind. -/
def startW (kind : Int) : List UInt64 := if kind = 1 then sha18 else if kind = 2 then two8.map fun (x : UInt64) => x &&& 0xffffffff else if kind = 3 then one8.map fun (x : UInt64) => x >>> 32 else if kind = 4 then two8 else one8
theorem startW_len (kind : Int) : (startW kind).length = 8 := by unfold startW; split <;> (try split) <;> (try split) <;> (try split) <;> rfl
theorem andI_U64 (t : TypeId) (x : UInt64) (n : Int) (h0 : 0 ≤ n) : binOp .and t (U64 x) (.int .u64 n) = pure (U64 (x &&& UInt64.ofNat n.toNat)) := by
  obtain ⟨m, rfl⟩ := Int.eq_ofNat_of_zero_le h0
  show (pure (.int .u64 (IntKind.u64.wrap (BitVec.toNat (BitVec.ofInt 64 (x.toNat : Int) &&& BitVec.ofInt 64 (m : Int))))) : Sem Value) = _
  rw [wrap_u64, ← U64_eq]
  simp only [Int.toNat_natCast, BitVec.ofInt_natCast, UInt64.toNat_and, BitVec.toNat_and, BitVec.toNat_ofNat, UInt64.toNat_ofNat']
  have := x.toNat_lt
  rw [Nat.mod_eq_of_lt (a := x.toNat) (by omega)]
  have : x.toNat &&& (m % 2 ^ 64) < 2 ^ 64 := Nat.and_lt_two_pow _ (Nat.mod_lt _ (by decide))
  omega
attribute [go_sem] andI_U64
/-- What a variable of eight words of 64 bits is read as. -/
theorem load8 {w : World} {g : Nat} {l : List UInt64} (h : Blk w g 91 (l.map U64).toArray) (hl : l.length = 8) : (loadVar 91 ⟨g, 0, none⟩).run Tryd.prog w = .ok (.agg (l.map U64).toArray) w :=
  run_loadVar_mid w g 0 91 (l.map U64) _ h.range Tryd.underlying91 rfl (by rw [List.length_map, hl]; kernel_rfl)
theorem all8_U64 (l : List UInt64) : (l.map U64).all (·.oneCell') = true := by rw [List.all_map]; exact List.all_eq_true.2 fun _ _ => rfl

theorem start1 (w : World) : Calls Tryd.prog 64 #[.int .i64 1] w fun e w' => e = .returned (.agg #[.int .u64 1732584193, .int .u64 4023233417, .int .u64 2562383102, .int .u64 271733878, .int .u64 3285377520, .int .u64 0, .int .u64 0, .int .u64 0]) ∧ Below w.heap.size w w' := by
  go_enter Tryd.func64, Tryd.ntmps64
  go_wp2
  refine bodyPost_ret (v := .agg #[.int .u64 1732584193, .int .u64 4023233417, .int .u64 2562383102, .int .u64 271733878, .int .u64 3285377520, .int .u64 0, .int .u64 0, .int .u64 0]) (by simp [results, Tryd.results64, go_sem]) rfl ⟨rfl, ?_⟩
  repeat (first | exact Below.refl _ _ | refine Below.setCell ?_ (by simp; try omega) _ | refine Below.alloc ?_ (by simp; try omega) _)
theorem start4 (w : World) : Calls Tryd.prog 64 #[.int .i64 4] w fun e w' => e = .returned (.agg #[.int .u64 14680500436340154072, .int .u64 7105036623409894663, .int .u64 10473403895298186519, .int .u64 1526699215303891257, .int .u64 7436329637833083697, .int .u64 10282925794625328401, .int .u64 15784041429090275239, .int .u64 5167115440072839076]) ∧ Below w.heap.size w w' := by
  go_enter Tryd.func64, Tryd.ntmps64
  go_wp2
  refine bodyPost_ret (v := .agg #[.int .u64 14680500436340154072, .int .u64 7105036623409894663, .int .u64 10473403895298186519, .int .u64 1526699215303891257, .int .u64 7436329637833083697, .int .u64 10282925794625328401, .int .u64 15784041429090275239, .int .u64 5167115440072839076]) (by simp [results, Tryd.results64, go_sem]) rfl ⟨rfl, ?_⟩
  repeat (first | exact Below.refl _ _ | refine Below.setCell ?_ (by simp; try omega) _ | refine Below.alloc ?_ (by simp; try omega) _)
theorem start5 (w : World) : Calls Tryd.prog 64 #[.int .i64 5] w fun e w' => e = .returned (.agg #[.int .u64 7640891576956012808, .int .u64 13503953896175478587, .int .u64 4354685564936845355, .int .u64 11912009170470909681, .int .u64 5840696475078001361, .int .u64 11170449401992604703, .int .u64 2270897969802886507, .int .u64 6620516959819538809]) ∧ Below w.heap.size w w' := by
  go_enter Tryd.func64, Tryd.ntmps64
  go_wp2
  refine bodyPost_ret (v := .agg #[.int .u64 7640891576956012808, .int .u64 13503953896175478587, .int .u64 4354685564936845355, .int .u64 11912009170470909681, .int .u64 5840696475078001361, .int .u64 11170449401992604703, .int .u64 2270897969802886507, .int .u64 6620516959819538809]) (by simp [results, Tryd.results64, go_sem]) rfl ⟨rfl, ?_⟩
  repeat (first | exact Below.refl _ _ | refine Below.setCell ?_ (by simp; try omega) _ | refine Below.alloc ?_ (by simp; try omega) _)
theorem start2 (w : World) : Calls Tryd.prog 64 #[.int .i64 2] w fun e w' => e = .returned (.agg #[.int .u64 3238371032, .int .u64 914150663, .int .u64 812702999, .int .u64 4144912697, .int .u64 4290775857, .int .u64 1750603025, .int .u64 1694076839, .int .u64 3204075428]) ∧ Below w.heap.size w w' := by
  go_enter Tryd.func64, Tryd.ntmps64
  go_wp2
  refine wp_loop_rounds 9 ?_
  repeat (rw [rounds_succ]; go_wp2)
  refine bodyPost_ret (v := .agg #[.int .u64 3238371032, .int .u64 914150663, .int .u64 812702999, .int .u64 4144912697, .int .u64 4290775857, .int .u64 1750603025, .int .u64 1694076839, .int .u64 3204075428]) (by simp [results, Tryd.results64, go_sem]; exact ⟨by kernel_rfl, by kernel_rfl, by kernel_rfl, by kernel_rfl, by kernel_rfl, by kernel_rfl, by kernel_rfl, by kernel_rfl⟩) rfl ⟨rfl, ?_⟩
  repeat (first | exact Below.refl _ _ | refine Below.setCell ?_ (by simp; try omega) _ | refine Below.alloc ?_ (by simp; try omega) _)
theorem start3 (w : World) : Calls Tryd.prog 64 #[.int .i64 3] w fun e w' => e = .returned (.agg #[.int .u64 1779033703, .int .u64 3144134277, .int .u64 1013904242, .int .u64 2773480762, .int .u64 1359893119, .int .u64 2600822924, .int .u64 528734635, .int .u64 1541459225]) ∧ Below w.heap.size w w' := by
  go_enter Tryd.func64, Tryd.ntmps64
  go_wp2
  refine wp_loop_rounds 9 ?_
  repeat (rw [rounds_succ]; go_wp2)
  refine bodyPost_ret (v := .agg #[.int .u64 1779033703, .int .u64 3144134277, .int .u64 1013904242, .int .u64 2773480762, .int .u64 1359893119, .int .u64 2600822924, .int .u64 528734635, .int .u64 1541459225]) (by simp [results, Tryd.results64, go_sem]) rfl ⟨rfl, ?_⟩
  repeat (first | exact Below.refl _ _ | refine Below.setCell ?_ (by simp; try omega) _ | refine Below.alloc ?_ (by simp; try omega) _)
theorem start_any (kind : Int) (w : World) (hk : 1 ≤ kind ∧ kind ≤ 5) : Calls Tryd.prog 64 #[.int .i64 kind] w fun e w' => e = .returned (.agg ((startW kind).map U64).toArray) ∧ Below w.heap.size w w' := by
  obtain ⟨k1, k2⟩ := hk
  have hcase : kind = 1 ∨ kind = 2 ∨ kind = 3 ∨ kind = 4 ∨ kind = 5 := by omega
  rcases hcase with rfl | rfl | rfl | rfl | rfl
  · exact (start1 w).mono fun e w' h => ⟨h.1.trans (by kernel_rfl), h.2⟩
  · exact (start2 w).mono fun e w' h => ⟨h.1.trans (by kernel_rfl), h.2⟩
  · exact (start3 w).mono fun e w' h => ⟨h.1.trans (by kernel_rfl), h.2⟩
  · exact (start4 w).mono fun e w' h => ⟨h.1.trans (by kernel_rfl), h.2⟩
  · exact (start5 w).mono fun e w' h => ⟨h.1.trans (by kernel_rfl), h.2⟩

/-- A state in memory: its block, what it has taken in, what waits. -/
structure HashAt (w : World) (d : Nat) (kind : Int) (hs : List UInt64) (wait : List UInt8) (n : UInt64) (wv : Value) : Prop where
  kindOk : 1 ≤ kind ∧ kind ≤ 5
  blk : Blk w d 94 (hcells kind hs wv n)
  len : hs.length = 8
  own : Own w (1 + 1) wv wait
  ne0 : d ≠ 1

theorem new_none (kind : Int) (w : World) (hk : kind < 1 ∨ 5 < kind) : Calls Tryd.prog 49 #[.int .i64 kind] w fun e w' => e = .returned (.pointer none) ∧ w = w' := by
  have hz : hsize kind = 0 := by simp [hsize]; omega
  go_enter Tryd.func49, Tryd.ntmps49
  go_wp2_with (go_at_call 29; refine (size_any kind _).mono ?_; rintro e w' ⟨rfl, rfl⟩; rw [hz])
  go_ret
  exact ⟨rfl, rfl⟩
theorem new_any (kind : Int) (w : World) (hk : 1 ≤ kind ∧ kind ≤ 5) (hK : KAt w) : Calls Tryd.prog 49 #[.int .i64 kind] w fun e w' => ∃ d, e = .returned (.pointer (some ⟨d, 0, none⟩)) ∧ w.heap.size ≤ d ∧ HashAt w' d kind (startW kind) [] 0 (.slice none 0 0) ∧ Below w.heap.size w w' := by
  have hz : (hsize kind == 0) = false := by
    have hcase : kind = 1 ∨ kind = 2 ∨ kind = 3 ∨ kind = 4 ∨ kind = 5 := by omega
    rcases hcase with rfl | rfl | rfl | rfl | rfl <;> decide
  have hl := startW_len kind
  have HS := Lib.hid (start_any kind w hk)
  have HK := Lib.hid hk
  generalize hsz : hsize kind = z at *
  have HZ := Lib.hid hsz
  generalize hst : startW kind = st at *
  have Hst := Lib.hid hst
  clear hsz hst hk
  obtain ⟨x0, x1, x2, x3, x4, x5, x6, x7, rfl⟩ : ∃ a b c d e f g h, st = [a, b, c, d, e, f, g, h] := by
    match st, hl with
    | [a, b, c, d, e, f, g, h], _ => exact ⟨_, _, _, _, _, _, _, _, rfl⟩
  simp only [List.map_cons, List.map_nil] at HS
  go_enter Tryd.func49, Tryd.ntmps49
  go_wp2_with (first | (go_at_call 29; refine (size_any kind _).mono ?_; rintro e w' ⟨rfl, rfl⟩; rw [HZ.out]) | (go_at_call 64; refine HS.out.mono ?_; rintro e w1 ⟨rfl, hB⟩))
  go_ret
  refine ⟨_, rfl, hB.size, ⟨HK.out, ?_, hl, ?_, ?_⟩, hB.trans ((Below.refl _ _).alloc hB.size _)⟩
  · exact Blk.new w1 _ (hcells kind [x0, x1, x2, x3, x4, x5, x6, x7] (.slice none 0 0) 0)
  · exact World.ownsRow_nil _ _ _ _
  · have := hK.1; have := hB.size; omega
end Go.Proofs.YtddemlajfbagdaaDoor
namespace Go.Proofs.YtddemlajfbagdaaDoor
open Go.RowKit

theorem Turn.putObj {S : List Nat} {w w' : World} (h : Turn S w w') {l : Nat} (hl : l ∈ S ∨ w.heap.size ≤ l) (o : Obj) : Turn S w (w'.putObj l o) :=
  h.grown (grownBy_putObj' w' l o) (fun k hk => by cases hk; exact hl)

/-- WHAT AN ITERATOR DOES, called with a round's function: at most N rounds, the k-th with arguments of which Arg is true; J is the caller's word between two rounds, Jx when a round has said 'no more'; Mine is what the iterator itself
needs of memory; T are the blocks that it writes. -/
def Iter (P : Program) (gf : Nat) (lb : Array Value) (Arg : Nat → Array Value → World → Prop) (Mine : Nat → World → Prop) (N : Nat) (T : List Nat) : Prop :=
  ∀ (l : Nat) (J Jx : Nat → World → Prop) (W : World),
    (∀ k W1 W2, J k W1 → Turn T W1 W2 → J k W2) → (∀ k W1 W2, Jx k W1 → Turn T W1 W2 → Jx k W2) →
    (∀ k args W1, k < N → J k W1 → Mine k W1 → Arg k args W1 → YieldAt Fence.wide 2 P l args W1 fun e W' =>
      (e = .returned (.bool true) ∧ J (k + 1) W' ∧ Mine k W') ∨ (e = .returned (.bool false) ∧ Jx k W')) →
    J 0 W → Mine 0 W →
    CallsIn Fence.wide 3 P gf (#[.func (.yield l) #[] #[]] ++ lb) W fun e W' => (∃ v, e = .returned v) ∧ (J N W' ∨ ∃ k, k < N ∧ Jx k W')

/-- What the body of a round keeps: the two blocks of book-keeping. -/
def KeepsTwo (D : Nat) (W W' : World) : Prop := ∃ S, Turn S W W' ∧ D ∉ S ∧ D + 1 ∉ S

/-- How the body of the k-th round may be left. -/
def roundEnds (D : Nat) (I : Nat → World → Prop) (Ix : Code → Nat → World → Prop) (Mine : Nat → World → Prop) (k : Nat) (W : World) : Exit → Act → World → Prop
  | .normal, _, W' => KeepsTwo D W W' ∧ I (k + 1) W' ∧ Mine k W'
  | .ret, _, W' => KeepsTwo D W W' ∧ Ix .ret k W'
  | .exit id, _, W' => KeepsTwo D W W' ∧ Ix (.exit id) k W'
  | .goto t, _, W' => KeepsTwo D W W' ∧ Ix (.goto t) k W'
  | .panic _, _, _ => False
  | .outgrown, _, _ => False

/-- The statement 'for .. := range g { .. }'. D: the heap's size where it begins: the blocks of book-keeping are D and D + 1. -/
theorem wp_range {P : Program} {g : Operand} {ps : Array Tmp} {assign body : Code} {Q : Exit → Act → World → Prop} {a : Act} {w : World}
    {gf : Nat} {lb : Array Value} {Arg : Nat → Array Value → World → Prop} {Mine : Nat → World → Prop} {N : Nat} {T : List Nat}
    (hg : a.eval g = .func (.func gf) #[] lb) (eg : ∀ args w, (callFunc gf args).run P w = .ok (.enter gf args) w)
    (hit : Iter P gf lb Arg Mine N T) (hps : ∀ k args W, Arg k args W → args.size = ps.size) (hT : ∀ t ∈ T, t < w.heap.size)
    (I : Nat → World → Prop) (Ix : Code → Nat → World → Prop)
    (hI : ∀ k W1 W2 S, I k W1 → Turn S W1 W2 → (∀ t ∈ S, t ∈ T ∨ (t = w.heap.size + 1 ∧ ∃ r, W1.heap[t]? = some (.loop r))) → I k W2)
    (hIx : ∀ c k W1 W2 S, Ix c k W1 → Turn S W1 W2 → (∀ t ∈ S, t ∈ T ∨ (t = w.heap.size + 1 ∧ ∃ r, W1.heap[t]? = some (.loop r))) → Ix c k W2)
    (hM : ∀ k W1 W2, Mine k W1 → (∃ r, W1.heap[w.heap.size + 1]? = some (.loop r)) → Turn [w.heap.size + 1] W1 W2 → Mine k W2)
    (hA : ∀ k args W1 W2, Arg k args W1 → (∃ r, W1.heap[w.heap.size + 1]? = some (.loop r)) → Turn [w.heap.size + 1] W1 W2 → Arg k args W2)
    (h0 : I 0 w) (hM0 : Mine 0 w) (hM1 : ∀ W, Turn [] w W → Mine 0 w → Mine 0 W) (a₁ : Array Value → Act)
    (hassign : ∀ (l : Nat) (args : Array Value) (k : Nat) (W : World) (K : Act → World → Prop), Arg k args W → K (a₁ args) W →
      assign.wpIn (Fence.wide.inRound l) 2 P (Exit.then K (fun _ _ _ => False)) { tmps := (ps.zip args).foldl (fun t (p, v) => t.setIfInBounds p v) a.tmps, defers := [] } W)
    (hbody : ∀ (l k : Nat) (args : Array Value) (W : World), k < N → w.heap.size + 1 < W.heap.size → I k W → Mine k W → Arg k args W → body.wpIn (Fence.wide.inRound l) 2 P (roundEnds w.heap.size I Ix Mine k W) (a₁ args) W)
    (hdone : ∀ (W : World), w.heap.size + 1 < W.heap.size → I N W → W.heap[w.heap.size]? = some (.deferred (some [])) → Q .normal { a with defers := { target := .collected w.heap.size, args := #[] } :: a.defers } W)
    (hstop : ∀ (c : Code) (k : Nat) (W : World), w.heap.size + 1 < W.heap.size → k < N → Ix c k W → W.heap[w.heap.size]? = some (.deferred (some [])) → c.wp P Q { a with defers := { target := .collected w.heap.size, args := #[] } :: a.defers } W) :
    (Code.rangeFunc g ps assign body).wp P Q a w := by
  refine (wpIn_wide (n := 4)).1 (wpIn_rangeFunc ?_)
  intro fn hfn
  rw [Fence.wide_round]
  obtain ⟨rec, hrec⟩ : ∃ rec : LoopState → Option Code → Loop, rec = fun st pe => { state := st, pending := pe, fn, tmps := a.tmps, params := ps, assign, body, defers := w.heap.size } := ⟨_, rfl⟩
  obtain ⟨W1, hW1⟩ : ∃ W1, (w.alloc (.deferred (some []))).alloc (.loop (rec .ready none)) = W1 := ⟨_, rfl⟩
  have hL1 : W1.heap[w.heap.size + 1]? = some (.loop (rec .ready none)) := by
    rw [← hW1]; have := World.alloc_heap_new (w.alloc (.deferred (some []))) (.loop (rec .ready none)); rwa [World.size_alloc] at this
  have hK1 : W1.heap[w.heap.size]? = some (.deferred (some [])) := by
    rw [← hW1]; exact (Below.heap_alloc _ _ _ (by simp)).trans (World.alloc_heap_new w _)
  have hT1 : Turn [] w W1 := by rw [← hW1]; exact ((Turn.refl _ _).alloc _).alloc _
  have hI1 : I 0 W1 := hI 0 w W1 [] h0 hT1 (by simp)
  have hMine1 : Mine 0 W1 := hM1 W1 hT1 hM0
  have hTD : w.heap.size ∉ T ∧ w.heap.size + 1 ∉ T := ⟨fun h => by have := hT _ h; omega, fun h => by have := hT _ h; omega⟩
  refine ⟨w.heap.size + 1, [{ target := .collected w.heap.size, args := #[] }], W1, { target := .fn (.func gf) lb, args := #[.func (.yield (w.heap.size + 1)) #[] #[]] }, W1, gf,
    #[.func (.yield (w.heap.size + 1)) #[] #[]] ++ lb, W1, ?_, ?_, ?_, ?_, fun h => by simp [Fence.wide] at h, ?_⟩
  · rw [← hW1, hrec]; exact run_enterLoop_outer _ _ _ _ _
  · simp only [resolve, hg]
    simp [go_sem]
  · intro f' hf'; exact trivial
  · simp [invoke, go_sem, eg]
  · refine (hit (w.heap.size + 1)
      (fun k W => I k W ∧ W.heap[w.heap.size + 1]? = some (.loop (rec .ready none)) ∧ W.heap[w.heap.size]? = some (.deferred (some [])))
      (fun k W => ∃ c, Ix c k W ∧ W.heap[w.heap.size + 1]? = some (.loop (rec .done (some c))) ∧ W.heap[w.heap.size]? = some (.deferred (some [])))
      W1 ?_ ?_ ?_ ⟨hI1, hL1, hK1⟩ hMine1).mono ?_
    · rintro k A B ⟨hi, hl, hk⟩ ht
      have hlt : w.heap.size + 1 < A.heap.size := (Array.getElem?_eq_some_iff.1 hl).1
      exact ⟨hI k A B T hi ht (fun t h => .inl h), (ht.block _ hlt hTD.2).trans hl, (ht.block _ (by omega) hTD.1).trans hk⟩
    · rintro k A B ⟨c, hi, hl, hk⟩ ht
      have hlt : w.heap.size + 1 < A.heap.size := (Array.getElem?_eq_some_iff.1 hl).1
      exact ⟨c, hIx c k A B T hi ht (fun t h => .inl h), (ht.block _ hlt hTD.2).trans hl, (ht.block _ (by omega) hTD.1).trans hk⟩
    · rintro k args W hkN ⟨hi, hl, hk⟩ hmine harg
      have hlt : w.heap.size + 1 < W.heap.size := (Array.getElem?_eq_some_iff.1 hl).1
      have hy := run_yield (P := P) (args := args) hl (by rw [hrec]; exact hps k args W harg)
      rw [hrec] at hy
      refine ⟨fn, _, assign, body, hy, roundIn_of_wpIn hfn (hassign _ args k W _ harg ?_)⟩
      clear hy
      refine ⟨_, run_beginRound hl (by rw [hrec]), ?_⟩
      have hl2 : (W.putObj (w.heap.size + 1) (.loop { rec .ready none with state := .busy })).heap[w.heap.size + 1]? = some (.loop { rec .ready none with state := .busy }) := World.putObj_heap_same hlt
      have hk2 : (W.putObj (w.heap.size + 1) (.loop { rec .ready none with state := .busy })).heap[w.heap.size]? = some (.deferred (some [])) := (World.putObj_heap_other (by omega)).trans hk
      have ht2 : Turn [w.heap.size + 1] W (W.putObj (w.heap.size + 1) (.loop { rec .ready none with state := .busy })) := (Turn.refl _ W).putObj (.inl (by simp)) _
      refine wpIn_mono (hbody _ k args _ hkN (by simpa using hlt) (hI _ _ _ _ hi ht2 (fun t h => .inr (by simp at h; subst h; exact ⟨rfl, _, hl⟩))) (hM _ _ _ hmine ⟨_, hl⟩ ht2) (hA _ _ _ _ harg ⟨_, hl⟩ ht2)) ?_
      have fin : ∀ (jump : Option Code) (W3 : World), KeepsTwo w.heap.size (W.putObj (w.heap.size + 1) (.loop { rec .ready none with state := .busy })) W3 →
          (Instr.endRound (w.heap.size + 1) jump).run P W3 = .ok (.bool jump.isNone) (W3.putObj (w.heap.size + 1) (.loop (rec (if jump.isNone then .ready else .done) jump))) ∧
          W3.heap[w.heap.size + 1]? = some (.loop { rec .ready none with state := .busy }) ∧
          (W3.putObj (w.heap.size + 1) (.loop (rec (if jump.isNone then .ready else .done) jump))).heap[w.heap.size + 1]? = some (.loop (rec (if jump.isNone then .ready else .done) jump)) ∧
          (W3.putObj (w.heap.size + 1) (.loop (rec (if jump.isNone then .ready else .done) jump))).heap[w.heap.size]? = some (.deferred (some [])) := fun jump W3 hk3 => by
        obtain ⟨S, ht, hs1, hs2⟩ := hk3
        have hl3 := (ht.block _ (by simpa using hlt) hs2).trans hl2
        have hk3 := (ht.block _ (by simp; omega) hs1).trans hk2
        have := run_endRound (P := P) jump hl3
        rw [hrec] at this ⊢
        exact ⟨this, by rw [hrec] at hl3; exact hl3, World.putObj_heap_same (Array.getElem?_eq_some_iff.1 hl3).1, (World.putObj_heap_other (by omega)).trans hk3⟩
      have ht4 : ∀ (W3 : World) (o : Obj), Turn [w.heap.size + 1] W3 (W3.putObj (w.heap.size + 1) o) := fun W3 o => (Turn.refl _ W3).putObj (.inl (by simp)) _
      rintro e a3 W3 hp
      cases e with
      | normal =>
        obtain ⟨hk3, hi3, hm3⟩ := hp
        obtain ⟨hr, hl3, hl4, hk4⟩ := fin none W3 hk3
        exact ⟨_, _, hr, .inl ⟨rfl, ⟨hI _ _ _ _ hi3 (ht4 _ _) (fun t h => .inr (by simp at h; subst h; exact ⟨rfl, _, hl3⟩)), hl4, hk4⟩, hM _ _ _ hm3 ⟨_, hl3⟩ (ht4 _ _)⟩⟩
      | ret =>
        obtain ⟨hk3, hi3⟩ := hp
        obtain ⟨hr, hl3, hl4, hk4⟩ := fin (some .ret) W3 hk3
        exact ⟨_, _, hr, .inr ⟨rfl, .ret, hIx _ _ _ _ _ hi3 (ht4 _ _) (fun t h => .inr (by simp at h; subst h; exact ⟨rfl, _, hl3⟩)), hl4, hk4⟩⟩
      | exit id =>
        obtain ⟨hk3, hi3⟩ := hp
        obtain ⟨hr, hl3, hl4, hk4⟩ := fin (some (.exit id)) W3 hk3
        exact ⟨_, _, hr, .inr ⟨rfl, .exit id, hIx _ _ _ _ _ hi3 (ht4 _ _) (fun t h => .inr (by simp at h; subst h; exact ⟨rfl, _, hl3⟩)), hl4, hk4⟩⟩
      | goto t =>
        obtain ⟨hk3, hi3⟩ := hp
        obtain ⟨hr, hl3, hl4, hk4⟩ := fin (some (.goto t)) W3 hk3
        exact ⟨_, _, hr, .inr ⟨rfl, .goto t, hIx _ _ _ _ _ hi3 (ht4 _ _) (fun t h => .inr (by simp at h; subst h; exact ⟨rfl, _, hl3⟩)), hl4, hk4⟩⟩
      | panic ch => exact hp.elim
      | outgrown => exact hp.elim
    · have ht4 : ∀ (W3 : World) (o : Obj), Turn [w.heap.size + 1] W3 (W3.putObj (w.heap.size + 1) o) := fun W3 o => (Turn.refl _ W3).putObj (.inl (by simp)) _
      rintro e W2 ⟨⟨v, rfl⟩, (⟨hi, hl, hk⟩ | ⟨k, hkN, c, hi, hl, hk⟩)⟩
      · have hlt : w.heap.size + 1 < W2.heap.size := (Array.getElem?_eq_some_iff.1 hl).1
        exact ⟨none, _, by have := run_endLoop (P := P) hl (by rw [hrec]; simp); rw [hrec] at this; exact this,
          hdone _ (by simpa using hlt) (hI _ _ _ _ hi (ht4 _ _) (fun t h => .inr (by simp at h; subst h; exact ⟨rfl, _, hl⟩))) ((World.putObj_heap_other (by omega)).trans hk)⟩
      · have hlt : w.heap.size + 1 < W2.heap.size := (Array.getElem?_eq_some_iff.1 hl).1
        exact ⟨some c, _, by have := run_endLoop (P := P) hl (by rw [hrec]; simp); rw [hrec] at this; exact this,
          wpIn_wide.2 (hstop c k _ (by simpa using hlt) hkN (hIx _ _ _ _ _ hi (ht4 _ _) (fun t h => .inr (by simp at h; subst h; exact ⟨rfl, _, hl⟩))) ((World.putObj_heap_other (by omega)).trans hk))⟩

/-- The same, where nothing is assigned ahead of a round's body. -/
theorem wp_range0 {P : Program} {g : Operand} {ps : Array Tmp} {body : Code} {Q : Exit → Act → World → Prop} {a : Act} {w : World}
    {gf : Nat} {lb : Array Value} {Arg : Nat → Array Value → World → Prop} {Mine : Nat → World → Prop} {N : Nat} {T : List Nat}
    (hg : a.eval g = .func (.func gf) #[] lb) (eg : ∀ args w, (callFunc gf args).run P w = .ok (.enter gf args) w)
    (hit : Iter P gf lb Arg Mine N T) (hps : ∀ k args W, Arg k args W → args.size = ps.size) (hT : ∀ t ∈ T, t < w.heap.size)
    (I : Nat → World → Prop) (Ix : Code → Nat → World → Prop)
    (hI : ∀ k W1 W2 S, I k W1 → Turn S W1 W2 → (∀ t ∈ S, t ∈ T ∨ (t = w.heap.size + 1 ∧ ∃ r, W1.heap[t]? = some (.loop r))) → I k W2)
    (hIx : ∀ c k W1 W2 S, Ix c k W1 → Turn S W1 W2 → (∀ t ∈ S, t ∈ T ∨ (t = w.heap.size + 1 ∧ ∃ r, W1.heap[t]? = some (.loop r))) → Ix c k W2)
    (hM : ∀ k W1 W2, Mine k W1 → (∃ r, W1.heap[w.heap.size + 1]? = some (.loop r)) → Turn [w.heap.size + 1] W1 W2 → Mine k W2)
    (hA : ∀ k args W1 W2, Arg k args W1 → (∃ r, W1.heap[w.heap.size + 1]? = some (.loop r)) → Turn [w.heap.size + 1] W1 W2 → Arg k args W2)
    (h0 : I 0 w) (hM0 : Mine 0 w) (hM1 : ∀ W, Turn [] w W → Mine 0 W)
    (hbody : ∀ (l k : Nat) (args : Array Value) (W : World), k < N → w.heap.size + 1 < W.heap.size → I k W → Mine k W → Arg k args W →
      body.wpIn (Fence.wide.inRound l) 2 P (roundEnds w.heap.size I Ix Mine k W) { tmps := (ps.zip args).foldl (fun t (p, v) => t.setIfInBounds p v) a.tmps, defers := [] } W)
    (hdone : ∀ (W : World), w.heap.size + 1 < W.heap.size → I N W → W.heap[w.heap.size]? = some (.deferred (some [])) → Q .normal { a with defers := { target := .collected w.heap.size, args := #[] } :: a.defers } W)
    (hstop : ∀ (c : Code) (k : Nat) (W : World), w.heap.size + 1 < W.heap.size → k < N → Ix c k W → W.heap[w.heap.size]? = some (.deferred (some [])) → c.wp P Q { a with defers := { target := .collected w.heap.size, args := #[] } :: a.defers } W) :
    (Code.rangeFunc g ps .skip body).wp P Q a w :=
  wp_range hg eg hit hps hT I Ix hI hIx hM hA h0 hM0 (fun W ht _ => hM1 W ht) (fun args => { tmps := (ps.zip args).foldl (fun t (p, v) => t.setIfInBounds p v) a.tmps, defers := [] })
    (fun _ _ _ _ _ _ hK => wpIn_skip hK) hbody hdone hstop

/-- A function's contract from its body, where the body holds a range over a function. -/
theorem calls_of_marks {P : Program} {f : FuncId} {fn : Func} {c : Code} {args : Array Value} {w : World} {R : Ending → World → Prop} (hf : P.funcs[f]? = some fn) (hb : fn.body = some c)
    (h : c.wp P (bodyPostM Fence.wide 3 P fn R) { tmps := args ++ Array.replicate (fn.ntmps - args.size) undef, defers := [] } w) : Calls P f args w R :=
  callsIn_wide.1 (callsIn_of_wp_marks (F := Fence.wide) (n := 3) hf hb trivial (wpIn_wide.2 h))

/-- Its return, with the mark. -/
theorem ret_mark {P : Program} {fn : Func} {R : Ending → World → Prop} {a : Act} {W : World} {D : Nat} {v : Value} (hd : a.defers = [{ target := .collected D, args := #[] }]) (hK : W.heap[D]? = some (.deferred (some [])))
    (hres : ∀ W', (results fn a.tmps).run P W' = .ok v W') (hR : R (.returned v) (W.putObj D (.deferred none))) : bodyPostM Fence.wide 3 P fn R .ret a W := by
  show LeavesInM Fence.wide 3 P fn a.tmps R a.defers .returning W
  rw [hd]
  exact ⟨by simp, .inl ⟨_, _, rfl, run_takeDeferred hK, _, hres _, hR⟩⟩
/-- Its return, ahead of the loop. -/
theorem ret_bare {P : Program} {fn : Func} {R : Ending → World → Prop} {a : Act} {W : World} {v : Value} (hd : a.defers = [])
    (hres : (results fn a.tmps).run P W = .ok v W) (hR : R (.returned v) W) : bodyPostM Fence.wide 3 P fn R .ret a W := by
  show LeavesInM Fence.wide 3 P fn a.tmps R a.defers .returning W
  rw [hd]
  exact ⟨_, hres, hR⟩
end Go.Proofs.YtddemlajfbagdaaDoor
