/-
  The law HashChunks, walked: the pieces are the bytes.
-/
import Derived.Test.YtdlipoklhojjkaaDoorBeg3
import Derived.Test.YtdlipoklhojjkaaDoorChunks2
import Derived.Test.YtdlipoklhojjkaaDoorInround
import Derived.Test.YtdlipoklhojjkaaDoorReg
import Derived.Test.YtdlipoklhojjkaaDoorShort
import Derived.Test.YtdlipoklhojjkaaDoorLift
namespace Go.Proofs.YtdlipoklhojjkaaDoor
open Go.RowKit
attribute [local go_sem] Oper.semAt_some

theorem box4 (w : World) (t0 t1 t2 t3 : TypeId) (v0 v1 v2 v3 : Value) : ∃ w1, (((w.alloc (.cells #[v0] t0)).alloc (.cells #[v1] t1)).alloc (.cells #[v2] t2)).alloc (.cells #[v3] t3) = w1 ∧
    Blk w1 w.heap.size t0 #[v0] ∧ Blk w1 (w.heap.size + 1) t1 #[v1] ∧ Blk w1 (w.heap.size + 1 + 1) t2 #[v2] ∧ Blk w1 (w.heap.size + 1 + 1 + 1) t3 #[v3] ∧ Old w w1 ∧ w1.heap.size = w.heap.size + 4 := by
  refine ⟨_, rfl, ?_, ?_, ?_, ?_, ?_, by simp⟩
  · exact (((Blk.new w t0 #[v0]).alloc _).alloc _).alloc _
  · have := ((Blk.new (w.alloc (.cells #[v0] t0)) t1 #[v1]).alloc (.cells #[v2] t2)).alloc (.cells #[v3] t3)
    simpa using this
  · have := (Blk.new ((w.alloc (.cells #[v0] t0)).alloc (.cells #[v1] t1)) t2 #[v2]).alloc (.cells #[v3] t3)
    simpa using this
  · have := Blk.new (((w.alloc (.cells #[v0] t0)).alloc (.cells #[v1] t1)).alloc (.cells #[v2] t2)) t3 #[v3]
    simpa using this
  · exact Old.alloc (Old.alloc (Old.alloc (Old.alloc (Old.refl w) _) _) _) _
/-- wp_range, where both of the round's arguments are laid into slots. -/
theorem wp_range2 (q0 q1 : Nat) {P : Program} {g : Operand} {ps : Array Tmp} {assign body : Code} {Q : Exit → Act → World → Prop} {a : Act} {w : World}
    {gf : Nat} {lb : Array Value} {Arg : Nat → Array Value → World → Prop} {Mine : Nat → World → Prop} {N : Nat} {T : List Nat}
    (hg : a.eval g = .func (.func gf) #[] lb) (eg : ∀ args w, (callFunc gf args).run P w = .ok (.enter gf args) w)
    (hit : Iter P gf lb Arg Mine N T) (hps : ∀ k args W, Arg k args W → args.size = ps.size) (hT : ∀ t ∈ T, t < w.heap.size)
    (I : Nat → World → Prop) (Ix : Code → Nat → World → Prop)
    (hI : ∀ k W1 W2 S, I k W1 → Turn S W1 W2 → (∀ t ∈ S, t ∈ T ∨ (t = w.heap.size + 1 ∧ ∃ r, W1.heap[t]? = some (.loop r))) → I k W2)
    (hIx : ∀ c k W1 W2 S, Ix c k W1 → Turn S W1 W2 → (∀ t ∈ S, t ∈ T ∨ (t = w.heap.size + 1 ∧ ∃ r, W1.heap[t]? = some (.loop r))) → Ix c k W2)
    (hM : ∀ k W1 W2, Mine k W1 → (∃ r, W1.heap[w.heap.size + 1]? = some (.loop r)) → Turn [w.heap.size + 1] W1 W2 → Mine k W2)
    (hA : ∀ k args W1 W2, Arg k args W1 → (∃ r, W1.heap[w.heap.size + 1]? = some (.loop r)) → Turn [w.heap.size + 1] W1 W2 → Arg k args W2)
    (h0 : I 0 w) (hM0 : Mine 0 w) (hM1 : ∀ W, Turn [] w W → Mine 0 W)
    (hassign : ∀ (l : Nat) (args : Array Value) (k : Nat) (W : World) (K : Act → World → Prop), Arg k args W →
      K { tmps := (((ps.zip args).foldl (fun t (p, v) => t.setIfInBounds p v) a.tmps).setIfInBounds q0 (args.getD 0 undef)).setIfInBounds q1 (args.getD 1 undef), defers := [] } W →
      assign.wpIn (Fence.wide.inRound l) 2 P (Exit.then K (fun _ _ _ => False)) { tmps := (ps.zip args).foldl (fun t (p, v) => t.setIfInBounds p v) a.tmps, defers := [] } W)
    (hbody : ∀ (l k : Nat) (args : Array Value) (W : World), k < N → w.heap.size + 1 < W.heap.size → I k W → Mine k W → Arg k args W →
      body.wpIn (Fence.wide.inRound l) 2 P (roundEnds w.heap.size I Ix Mine k W) { tmps := (((ps.zip args).foldl (fun t (p, v) => t.setIfInBounds p v) a.tmps).setIfInBounds q0 (args.getD 0 undef)).setIfInBounds q1 (args.getD 1 undef), defers := [] } W)
    (hdone : ∀ (W : World), w.heap.size + 1 < W.heap.size → I N W → W.heap[w.heap.size]? = some (.deferred (some [])) → Q .normal { a with defers := { target := .collected w.heap.size, args := #[] } :: a.defers } W)
    (hstop : ∀ (c : Code) (k : Nat) (W : World), w.heap.size + 1 < W.heap.size → k < N → Ix c k W → W.heap[w.heap.size]? = some (.deferred (some [])) → c.wp P Q { a with defers := { target := .collected w.heap.size, args := #[] } :: a.defers } W) :
    (Code.rangeFunc g ps assign body).wp P Q a w :=
  wp_range hg eg hit hps hT I Ix hI hIx hM hA h0 hM0 (fun W ht _ => hM1 W ht) (fun args => { tmps := (((ps.zip args).foldl (fun t (p, v) => t.setIfInBounds p v) a.tmps).setIfInBounds q0 (args.getD 0 undef)).setIfInBounds q1 (args.getD 1 undef), defers := [] })
    hassign hbody hdone hstop
/-- What stands between two rounds. -/
structure ChI (w : World) (X : Nat) (A : Option Addr) (m2 c : Nat) (n most : Int) (b : List UInt8) (kv av : Int) (W : World) : Prop where
  b0 : Blk W w.heap.size 22 #[.slice A m2 c]
  b1 : Blk W (w.heap.size + 1) 3 #[.int .i64 n]
  b2 : Blk W (w.heap.size + 1 + 1) 3 #[.int .i64 most]
  b3 : Blk W (w.heap.size + 1 + 1 + 1) 4 #[.bool false]
  b4 : Blk W X 4 #[.bool true]
  b5 : Blk W (X + 1 + 1 + 1) 3 #[.int .i64 kv]
  b6 : Blk W (X + 1 + 1 + 1 + 1) 3 #[.int .i64 av]
  rd : Rd W A m2 c b
  old : Old w W
theorem Old.turned {w W W' : World} {S : List Nat} (h : Old w W) (ht : Turn S W W') (hS : ∀ t ∈ S, w.heap.size ≤ t) : Old w W' :=
  ((Turn.of_below [] h).trans ht (fun x hx => .inr (hS x hx))).below
theorem ChI.turn {w : World} {X : Nat} {A : Option Addr} {m2 c : Nat} {n most : Int} {b : List UInt8} {kv av : Int} {W W' : World} {S : List Nat} (h : ChI w X A m2 c n most b kv av W) (ht : Turn S W W')
    (hX : w.heap.size + 1 + 1 + 1 < X) (hA : ∀ ad, A = some ad → ad.block < w.heap.size) (hS : ∀ t ∈ S, X < t ∧ t ≠ X + 1 + 1 + 1 ∧ t ≠ X + 1 + 1 + 1 + 1) : ChI w X A m2 c n most b kv av W' :=
  ⟨h.b0.turn ht (fun hm => by have := hS _ hm; omega), h.b1.turn ht (fun hm => by have := hS _ hm; omega), h.b2.turn ht (fun hm => by have := hS _ hm; omega), h.b3.turn ht (fun hm => by have := hS _ hm; omega),
    h.b4.turn ht (fun hm => by have := hS _ hm; omega), h.b5.turn ht (fun hm => by have := hS _ hm; omega), h.b6.turn ht (fun hm => by have := hS _ hm; omega),
    h.rd.turn ht (fun ad had hm => by have := hS _ hm; have := hA _ had; omega), h.old.turned ht (fun t hm => by have := hS _ hm; omega)⟩
theorem ChI.start {w wx : World} {A : Option Addr} {m m2 c : Nat} {n most : Int} {b : List UInt8} (h0 : Blk wx w.heap.size 22 #[.slice A m c]) (h1 : Blk wx (w.heap.size + 1) 3 #[.int .i64 n]) (h2 : Blk wx (w.heap.size + 1 + 1) 3 #[.int .i64 most])
    (h3 : Blk wx (w.heap.size + 1 + 1 + 1) 4 #[.bool false]) (ho : Old w wx) (hr : Rd w A m2 c b) :
    ∃ W, ((((((wx.setCell ⟨w.heap.size, 0, none⟩ (.slice A m2 c)).alloc (.cells #[.bool true] 4)).alloc (.cells #[.slice A m2 c] 22)).alloc (.cells #[.int .i64 n] 3)).alloc (.cells #[.int .i64 0] 3)).alloc (.cells #[.int .i64 0] 3)) = W ∧
      ChI w wx.heap.size A m2 c n most b 0 0 W ∧ Blk W (wx.heap.size + 1) 22 #[.slice A m2 c] ∧ Blk W (wx.heap.size + 1 + 1) 3 #[.int .i64 n] ∧ W.heap.size = wx.heap.size + 5 := by
  obtain ⟨wy, hy⟩ : ∃ wy, wx.setCell ⟨w.heap.size, 0, none⟩ (.slice A m2 c) = wy := ⟨_, rfl⟩
  have hzy : wy.heap.size = wx.heap.size := by rw [← hy]; simp [World.setCell]
  have hty : Turn [w.heap.size] wx wy := by rw [← hy]; exact (Turn.refl _ _).setCell (.inl (by simp)) _
  have g0 : Blk wy w.heap.size 22 #[.slice A m2 c] := by rw [← hy]; exact h0.set_ 0 _
  have g1 := h1.turn hty (by simp)
  have g2 := h2.turn hty (by simp; omega)
  have g3 := h3.turn hty (by simp; omega)
  have go : Old w wy := ho.turned hty (by simp)
  obtain ⟨W, hW⟩ : ∃ W, (((((wy.alloc (.cells #[.bool true] 4)).alloc (.cells #[.slice A m2 c] 22)).alloc (.cells #[.int .i64 n] 3)).alloc (.cells #[.int .i64 0] 3)).alloc (.cells #[.int .i64 0] 3)) = W := ⟨_, rfl⟩
  have hb : Old wy W := by rw [← hW]; exact Old.alloc (Old.alloc (Old.alloc (Old.alloc (Old.alloc (Old.refl _) _) _) _) _) _
  rw [hy]
  refine ⟨W, hW, ⟨g0.below hb, g1.below hb, g2.below hb, g3.below hb, ?_, ?_, ?_, hr.below (go.trans hb), go.trans hb⟩, ?_, ?_, ?_⟩
  · have := ((((Blk.new wy 4 #[.bool true]).alloc (.cells #[.slice A m2 c] 22)).alloc (.cells #[.int .i64 n] 3)).alloc (.cells #[.int .i64 0] 3)).alloc (.cells #[.int .i64 0] 3)
    rw [hW, hzy] at this; exact this
  · have := (Blk.new (((wy.alloc (.cells #[.bool true] 4)).alloc (.cells #[.slice A m2 c] 22)).alloc (.cells #[.int .i64 n] 3)) 3 #[.int .i64 0]).alloc (.cells #[.int .i64 0] 3)
    rw [hW] at this; simpa [hzy] using this
  · have := Blk.new ((((wy.alloc (.cells #[.bool true] 4)).alloc (.cells #[.slice A m2 c] 22)).alloc (.cells #[.int .i64 n] 3)).alloc (.cells #[.int .i64 0] 3)) 3 #[.int .i64 0]
    rw [hW] at this; simpa [hzy] using this
  · have := (((Blk.new (wy.alloc (.cells #[.bool true] 4)) 22 #[.slice A m2 c]).alloc (.cells #[.int .i64 n] 3)).alloc (.cells #[.int .i64 0] 3)).alloc (.cells #[.int .i64 0] 3)
    rw [hW] at this; simpa [hzy] using this
  · have := ((Blk.new ((wy.alloc (.cells #[.bool true] 4)).alloc (.cells #[.slice A m2 c] 22)) 3 #[.int .i64 n]).alloc (.cells #[.int .i64 0] 3)).alloc (.cells #[.int .i64 0] 3)
    rw [hW] at this; simpa [hzy] using this
  · rw [← hW]; simp [hzy]
/-- The return out of the loop, where the result lies in a cell. -/
theorem ret_cell {P : Program} {fn : Func} {R : Ending → World → Prop} {a : Act} {W : World} {D : Nat} {v : Value} (hd : a.defers = [{ target := .collected D, args := #[] }]) (hK : W.heap[D]? = some (.deferred (some [])))
    (hres : (results fn a.tmps).run P (W.putObj D (.deferred none)) = .ok v (W.putObj D (.deferred none))) (hR : R (.returned v) (W.putObj D (.deferred none))) : bodyPostM Fence.wide 3 P fn R .ret a W := by
  show LeavesInM Fence.wide 3 P fn a.tmps R a.defers .returning W
  rw [hd]
  exact ⟨by simp, .inl ⟨_, _, rfl, run_takeDeferred hK, _, hres, hR⟩⟩
theorem res_cell {fn : Func} {p : Tmp} {tmps : Array Value} {w : World} {g : Nat} {x : Bool} (h : fn.results = #[.cell p 4]) (hp : tmps.getD p undef = .pointer (some ⟨g, 0, none⟩)) (hb : Blk w g 4 #[.bool x]) :
    (results fn tmps).run Tryd.prog w = .ok (.bool x) w := by
  have hc := hb.cell 0
  simp only [List.getElem?_toArray, List.getElem?_cons_zero] at hc
  have hp' : tmps[p]?.getD undef = .pointer (some ⟨g, 0, none⟩) := by simpa using hp
  simp [results, h, hp', asAddr, Sem.run_bind]
  have hu := Tryd.underlying4
  go_simp
theorem ChI.step {w : World} {X : Nat} {A : Option Addr} {m2 c : Nat} {n most : Int} {b : List UInt8} {kv av : Int} {W : World} (h : ChI w X A m2 c n most b kv av W) (hX : w.heap.size + 1 + 1 + 1 < X) (hA : ∀ ad, A = some ad → ad.block < w.heap.size) {j v : Int} :
    Turn [X + 1 + 1 + 1 + 1, X + 1 + 1 + 1] W ((W.setCell ⟨X + 1 + 1 + 1 + 1, 0, none⟩ (.int .i64 j)).setCell ⟨X + 1 + 1 + 1, 0, none⟩ (.int .i64 v)) ∧ ChI w X A m2 c n most b v j ((W.setCell ⟨X + 1 + 1 + 1 + 1, 0, none⟩ (.int .i64 j)).setCell ⟨X + 1 + 1 + 1, 0, none⟩ (.int .i64 v)) := by
  have hT : Turn [X + 1 + 1 + 1 + 1, X + 1 + 1 + 1] W ((W.setCell ⟨X + 1 + 1 + 1 + 1, 0, none⟩ (.int .i64 j)).setCell ⟨X + 1 + 1 + 1, 0, none⟩ (.int .i64 v)) := ((Turn.refl _ _).setCell (.inl (by simp)) _).setCell (.inl (by simp)) _
  refine ⟨hT, h.b0.turn hT (by simp; omega), h.b1.turn hT (by simp; omega), h.b2.turn hT (by simp; omega), h.b3.turn hT (by simp; omega), h.b4.turn hT (by simp; omega), ?_, ?_, h.rd.turn hT (fun ad had hm => by have := hA ad had; simp at hm; omega), h.old.turned hT (by simp; omega)⟩
  · exact (h.b5.far (p := ⟨X + 1 + 1 + 1 + 1, 0, none⟩) (by simp) _).set_ 0 _
  · exact (h.b6.set_ 0 _).far (p := ⟨X + 1 + 1 + 1, 0, none⟩) (by simp) _
theorem ChI.last {w : World} {X : Nat} {A : Option Addr} {m2 c : Nat} {n most : Int} {b : List UInt8} {kv av : Int} {W : World} (h : ChI w X A m2 c n most b kv av W) (hX : w.heap.size + 1 + 1 + 1 < X) {j v : Int} :
    Turn [X + 1 + 1 + 1 + 1, X + 1 + 1 + 1, w.heap.size + 1 + 1 + 1] W (((W.setCell ⟨X + 1 + 1 + 1 + 1, 0, none⟩ (.int .i64 j)).setCell ⟨X + 1 + 1 + 1, 0, none⟩ (.int .i64 v)).setCell ⟨w.heap.size + 1 + 1 + 1, 0, none⟩ (.bool true)) ∧
    Blk (((W.setCell ⟨X + 1 + 1 + 1 + 1, 0, none⟩ (.int .i64 j)).setCell ⟨X + 1 + 1 + 1, 0, none⟩ (.int .i64 v)).setCell ⟨w.heap.size + 1 + 1 + 1, 0, none⟩ (.bool true)) (w.heap.size + 1 + 1 + 1) 4 #[.bool true] ∧
    Old w (((W.setCell ⟨X + 1 + 1 + 1 + 1, 0, none⟩ (.int .i64 j)).setCell ⟨X + 1 + 1 + 1, 0, none⟩ (.int .i64 v)).setCell ⟨w.heap.size + 1 + 1 + 1, 0, none⟩ (.bool true)) := by
  have hT : Turn [X + 1 + 1 + 1 + 1, X + 1 + 1 + 1, w.heap.size + 1 + 1 + 1] W (((W.setCell ⟨X + 1 + 1 + 1 + 1, 0, none⟩ (.int .i64 j)).setCell ⟨X + 1 + 1 + 1, 0, none⟩ (.int .i64 v)).setCell ⟨w.heap.size + 1 + 1 + 1, 0, none⟩ (.bool true)) := (((Turn.refl _ _).setCell (.inl (by simp)) _).setCell (.inl (by simp)) _).setCell (.inl (by simp)) _
  refine ⟨hT, ?_, h.old.turned hT (by simp; omega)⟩
  exact ((h.b3.far (p := ⟨X + 1 + 1 + 1 + 1, 0, none⟩) (show w.heap.size + 1 + 1 + 1 ≠ X + 1 + 1 + 1 + 1 by omega) _).far (p := ⟨X + 1 + 1 + 1, 0, none⟩) (show w.heap.size + 1 + 1 + 1 ≠ X + 1 + 1 + 1 by omega) _).set_ 0 _
theorem Rd.cut_both {w : World} {A : Option Addr} {m c k j : Nat} {l : List UInt8} (h : Rd w A m c l) (hk : k ≤ j) (hj : j ≤ m) :
    ∃ A' c', (∀ w, (Instr.slice 22 (.slice A m c) (some (.int .i64 (k : Int))) (some (.int .i64 (j : Int))) none).run Tryd.prog w = .ok (.slice A' (j - k) c') w) ∧ Rd w A' (j - k) c' ((l.drop k).take (j - k)) := by
  have h1 := h.2.1
  exact ⟨_, _, slice_both A m c k j hk (by omega), (h.cut (k := k) (by omega)).front (k := j - k) (by omega)⟩
theorem region_roundOld {P : Program} {ops : Array Oper} {Q : Exit → Act → World → Prop} {n l : Nat} {id : Nat} {a : Act} {w : World} (hd : noDefer ops = true) (hL : ¬ LetsOut Q) (hm : P.follows .mixedOrders = true)
    (h : ∀ wd, Old w wd → w.heap.size = wd.heap.size → wpAnyH P .any ops Q (Old w) ops.size (Array.replicate ops.size false) a wd) : (Code.region id ops true).wpIn (Fence.wide.inRound l) n P Q a w :=
  region_round hd hL hm (Old.drew (Old.refl w)) (fun hS => h _ hS rfl)
theorem neSeq (f : FuncId) (lb : Array Value) (w : World) : (binOp .eql 40 (.func (.func f) #[] lb) Value.nilFunc).run Tryd.prog w = .ok (.bool false) w := by kernel_rfl
set_option maxHeartbeats 4000000 in
theorem hashChunks_walk (n most : Int) (A : Option Addr) (m c : Nat) (l : List UInt8) (w : World) (hr : Rd w A m c l) (hK : KAt w) (hn1 : -9223372036854775808 ≤ n) (hn2 : n ≤ 9223372036854775807) :
    Calls Tryd.prog 6 #[.slice A m c, .int .i64 n, .int .i64 most] w (LawRes w) := by
  have HS := Lib.hid (fun w' hw => short_any A m c 300 l w' (hr.below (w' := w') hw) (by omega))
  have hs := hr.short (n := 300)
  have hm : min m 300 ≤ 300 := Nat.min_le_right _ _
  generalize min m 300 = m2 at *
  generalize l.take 300 = b at *
  have HH := Lib.hid (And.intro hs (And.intro hK hm))
  clear hr hs hK hm
  refine calls_of_marks Tryd.func6 rfl ?_
  simp only [Tryd.ntmps6, List.size_toArray, List.length_cons, List.length_nil, Nat.reduceAdd, Nat.reduceSub, Array.replicate_succ, Array.replicate_zero, List.push_toArray, List.append_toArray, List.nil_append, List.cons_append]
  go_wp2_with (fail)
  obtain ⟨w1, hw1, hb0, hb1, hb2, hb3, ho1, hz1⟩ := box4 w 22 3 3 4 (.slice A m c) (.int .i64 n) (.int .i64 most) (.bool false)
  rw [hw1]
  clear hw1
  refine (begun_any w1 (HH.out.2.1.below ho1)).mono ?_
  rintro e wx ⟨rfl, hbx⟩
  have hox : Old w wx := ho1.trans hbx
  have hzx := hbx.size
  replace hb0 := hb0.below hbx
  replace hb1 := hb1.below hbx
  replace hb2 := hb2.below hbx
  replace hb3 := hb3.below hbx
  have l0 : w.heap.size < wx.heap.size := by omega
  have l1 : w.heap.size + 1 < wx.heap.size := by omega
  have l2 : w.heap.size + 1 + 1 < wx.heap.size := by omega
  have l3 : w.heap.size + 1 + 1 + 1 < wx.heap.size := by omega
  have c0 := hb0.cell 0
  have c1 := hb1.cell 0
  have c2 := hb2.cell 0
  have c3 := hb3.cell 0
  have f0 := hb0.frozen 0
  have HB := Lib.hid (And.intro hb0 (And.intro hb1 (And.intro hb2 (And.intro hb3 (And.intro hox (And.intro l0 (And.intro l1 (And.intro l2 l3))))))))
  clear hb0 hb1 hb2 hb3 hox hzx hbx ho1 hz1
  simp only [List.getElem?_toArray, List.getElem?_cons_zero] at c0 c1 c2 c3
  have HSx : Hid (∀ w', Old wx w' → Calls Tryd.prog 12 #[.slice A m c, .int .i64 300] w' fun e w'' => e = .returned (.slice A m2 c) ∧ w' = w'') := Lib.hid (fun w' hw => HS.out w' (HB.out.2.2.2.2.1.trans hw))
  clear HS
  have hne := neSeq
  go_wp2_with (first
    | (go_at_call 12; have hc := HSx.out (wx.alloc (.cells #[.bool true] 4)) (Old.alloc (Old.refl wx) _); (with_reducible refine hc.mono ?_); clear hc; rintro e w' ⟨rfl, rfl⟩)
    | (go_at_call 25; refine (chunksOf_any _ _ _ _ _).mono ?_; rintro e w4 ⟨rfl, rfl⟩))
  obtain ⟨W0, hW0, hI0, hbb, hbn, hz0⟩ := ChI.start (A := A) (m := m) (m2 := m2) (c := c) (n := n) (most := most) (b := b) HB.out.1 HB.out.2.1 HB.out.2.2.1 HB.out.2.2.2.1 HB.out.2.2.2.2.1 HH.out.1
  rw [hW0]
  have l3 := HB.out.2.2.2.2.2.2.2.2
  have hAl : ∀ ad, A = some ad → ad.block < w.heap.size := fun ad had => HH.out.1.lt ad had
  have hx0 := Nat.lt_of_lt_of_le (show 0 < wx.heap.size + 5 by omega) (Nat.le_of_eq hz0.symm)
  generalize wx.heap.size = X at *
  have HZ := Lib.hid (And.intro hz0 (And.intro l3 hAl))
  clear l0 l1 l2 l3 c0 c1 c2 c3 f0 HB HSx hW0 hx0 hz0 hAl hne
  have hIgo : ∀ (kv av : Int) (W1 W2 : World) (S : List Nat), ChI w X A m2 c n most b kv av W1 → Turn S W1 W2 → (∀ t ∈ S, t ∈ [X + 1] ∨ (t = W0.heap.size + 1 ∧ ∃ r, W1.heap[t]? = some (.loop r))) → ChI w X A m2 c n most b kv av W2 := by
    intro kv av W1 W2 S h ht hS
    refine h.turn ht HZ.out.2.1 HZ.out.2.2 (fun t hm => ?_)
    have := HZ.out.1
    rcases hS t hm with h | ⟨h, _⟩
    · simp at h; omega
    · omega
  have hXgo : ∀ (W1 W2 : World) (S : List Nat), (Blk W1 (w.heap.size + 1 + 1 + 1) 4 #[.bool true] ∧ Old w W1) → Turn S W1 W2 → (∀ t ∈ S, t ∈ [X + 1] ∨ (t = W0.heap.size + 1 ∧ ∃ r, W1.heap[t]? = some (.loop r))) → (Blk W2 (w.heap.size + 1 + 1 + 1) 4 #[.bool true] ∧ Old w W2) := by
    rintro W1 W2 S ⟨h1, h2⟩ ht hS
    have := HZ.out.1
    have := HZ.out.2.1
    have hS' : ∀ t ∈ S, w.heap.size + 1 + 1 + 1 < t := by
      intro t hm
      rcases hS t hm with h | ⟨h, _⟩
      · simp at h; omega
      · omega
    exact ⟨h1.turn ht (fun hm => by have := hS' _ hm; omega), h2.turned ht (fun t hm => by have := hS' _ hm; omega)⟩
  have hfin : ∀ (W : World) (a : Act), a.tmps.getD 6 undef = .pointer (some ⟨w.heap.size + 1 + 1 + 1, 0, none⟩) → a.defers = [{ target := .collected W0.heap.size, args := #[] }] → Blk W (w.heap.size + 1 + 1 + 1) 4 #[.bool true] → Old w W → W.heap[W0.heap.size]? = some (.deferred (some [])) →
      bodyPostM Fence.wide 3 Tryd.prog Tryd.f6 (LawRes w) .ret a W := by
    intro W a ha hd hb ho hK
    have := HZ.out.1
    have := HZ.out.2.1
    have hT := (Turn.refl [W0.heap.size] W).putObj (l := W0.heap.size) (.inl (by simp)) (.deferred none)
    refine ret_cell hd hK (v := .bool true) ?_ ⟨rfl, ho.turned hT (by simp; omega)⟩
    exact res_cell rfl ha (hb.turn hT (by simp; omega))
  have Hgo := Lib.hid (And.intro hIgo (And.intro hXgo hfin))
  clear hIgo hXgo hfin
  by_cases hn : n < 1
  · refine wp_range2 11 12 (gf := 41) (lb := #[.pointer (some ⟨X + 1 + 1, 0, none⟩), .pointer (some ⟨X + 1, 0, none⟩)]) (T := [X + 1]) rfl (fun _ _ => by kernel_rfl)
      (chunks_iter0 (X + 1 + 1) (X + 1) n hn (chunkArg b 1 w.heap.size)) (fun k args W h => by obtain ⟨g, c, rfl, _⟩ := h; rfl) (by have := HZ.out.1; simp; omega)
      (fun k W => ChI w X A m2 c n most b 0 0 W) (fun c k W => False)
      (fun k W1 W2 S h ht hS => Hgo.out.1 _ _ W1 W2 S h ht hS) ?hIx ?hM ?hA hI0 hbn ?hM1 ?hassign ?hbody ?hdone ?hstop
    case hIx => intro _ _ _ _ _ h; exact h.elim
    case hM => intro k W1 W2 h _ ht; exact h.turn ht (by have := HZ.out.1; simp; omega)
    case hA =>
      rintro k args W1 W2 ⟨g, c, rfl, ho⟩ ⟨r, hr⟩ ht
      exact ⟨g, c, rfl, ho.turn ht (fun g' hg hm => by simp at hm; subst hm; exact ho.notin (noRow_loop hr) hg)⟩
    case hM1 => intro W ht; exact hbn.turn ht (by simp)
    case hassign =>
      rintro l' args k W K ⟨g, c, rfl, _⟩ hK
      simp at hK
      gi_wp2
      exact hK
    case hbody => intro l' k args W hk; exact absurd hk (Nat.not_lt_zero _)
    case hdone =>
      rintro W hlt h hK
      have c1 := h.b1.cell 0
      have c3 := h.b3.cell 0
      have c4 := h.b4.cell 0
      have c5 := h.b5.cell 0
      have f3 := h.b3.frozen 0
      simp only [List.getElem?_toArray, List.getElem?_cons_zero] at c1 c3 c4 c5
      have HI := Lib.hid h
      clear h
      go_wp2_with fail
      have hT := (Turn.refl [w.heap.size + 1 + 1 + 1] W).setCell (p := ⟨w.heap.size + 1 + 1 + 1, 0, none⟩) (.inl (by simp)) (.bool true)
      have hlt' := HZ.out.1
      have hlt2 := HZ.out.2.1
      exact Hgo.out.2.2 _ _ rfl rfl (HI.out.b3.set_ 0 _) (HI.out.old.turned hT (by simp; omega)) ((hT.block _ (by omega) (by simp; omega)).trans hK)
    case hstop => intro c k W _ _ h; exact h.elim
  · obtain ⟨Nn, rfl⟩ := Int.eq_ofNat_of_zero_le (show 0 ≤ n by omega)
    have hN1 : 1 ≤ Nn := by omega
    obtain ⟨src, hsA, hsb, hsl⟩ : ∃ src, (∀ ad, A = some ad → ad.block = src) ∧ src ≠ X + 1 ∧ src ≤ w.heap.size := by
      have := HZ.out.2.1
      cases A with
      | none => exact ⟨w.heap.size, fun ad h => (by cases h), by omega, Nat.le_refl _⟩
      | some ad => have := HZ.out.2.2 ad rfl; exact ⟨ad.block, fun ad' h => by cases h; rfl, by omega, by omega⟩
    have hml := hI0.rd.1
    have hm3 := HH.out.2.2
    have hbl' : b.length ≤ 140737488351232 := by omega
    have HsA := Lib.hid (And.intro hsA (And.intro hsb hsl))
    have Hml := Lib.hid hml
    have hbl : b.length ≤ 300 := by omega
    clear hsA hsl hml
    refine wp_range2 11 12 (gf := 41) (lb := #[.pointer (some ⟨X + 1 + 1, 0, none⟩), .pointer (some ⟨X + 1, 0, none⟩)]) (T := [X + 1]) rfl (fun _ _ => by kernel_rfl)
      (chunks_iter_big (X + 1 + 1) (X + 1) src w.heap.size hsb b Nn hN1 hbl') (fun k args W h => by obtain ⟨g, c, rfl, _⟩ := h; rfl) (by have := HZ.out.1; simp; omega)
      (fun k W => ChI w X A m2 c Nn most b (k : Nat) ((min (k * Nn) m2 : Nat) : Int) W) (fun c k W => c = .ret ∧ (Blk W (w.heap.size + 1 + 1 + 1) 4 #[.bool true] ∧ Old w W))
      (fun k W1 W2 S h ht hS => Hgo.out.1 _ _ W1 W2 S h ht hS) (fun c k W1 W2 S h ht hS => ⟨h.1, Hgo.out.2.1 W1 W2 S h.2 ht hS⟩) ?hM ?hA (by simpa using hI0) ?hM0 ?hM1 ?hassign ?hbody ?hdone ?hstop
    case hM =>
      rintro k W1 W2 ⟨h1, h2, A, m, c, h3, h4, h5⟩ ⟨r, hr⟩ ht
      have := HZ.out
      exact ⟨h1.turn ht (by simp; omega), Nat.le_trans h2 ht.size, A, m, c, h3.turn ht (by simp; omega), h4.turn ht (fun ad had hm => by have := h5 ad had; have := HsA.out.2.2; simp at hm; omega), h5⟩
    case hA =>
      rintro k args W1 W2 ⟨g, c, rfl, ho⟩ ⟨r, hr⟩ ht
      exact ⟨g, c, rfl, ho.turn ht (fun g' hg hm => by simp at hm; subst hm; exact ho.notin (noRow_loop hr) hg)⟩
    case hM0 => exact ⟨hbn, by have := HZ.out; omega, A, _, c, hbb, by simpa using hI0.rd, HsA.out.1⟩
    case hM1 =>
      intro W ht
      exact ⟨hbn.turn ht (by simp), by have := HZ.out; have := ht.size; omega, A, _, c, hbb.turn ht (by simp), by simpa using hI0.rd.turn ht (by simp), HsA.out.1⟩
    case hassign =>
      rintro l' args k W K ⟨g, c, rfl, _⟩ hK
      simp at hK
      gi_wp2
      exact hK
    case hbody =>
      rintro l' k args W hkN hlt hI hMi ⟨g, cg, rfl, ho⟩
      have hkn := (chunks_lt b Nn k hN1).1 hkN
      have hml := Hml.out
      obtain ⟨at', hat⟩ : ∃ at', k * Nn = at' := ⟨_, rfl⟩
      rw [hat] at hkn
      rw [show min (k * Nn) m2 = at' by omega] at hI
      have c0 := hI.b0.cell 0
      have c1 := hI.b1.cell 0
      have c6 := hI.b6.cell 0
      simp only [List.getElem?_toArray, List.getElem?_cons_zero] at c0 c1 c6
      have HI := Lib.hid hI
      have HMi := Lib.hid hMi
      have hki : (k : Int) ≤ 300 := by have := Nat.le_mul_of_pos_right k hN1; omega
      have hNi : (1 : Int) ≤ Nn := by omega
      have hmi : (m2 : Int) ≤ 300 := by omega
      have hai : (at' : Int) ≤ 300 := by omega
      clear hI hMi
      rcases Nat.lt_or_ge Nn (m2 - at') with hlt2 | hge2
      · have hli : (Nn : Int) < (m2 : Int) - at' := by omega
        obtain ⟨jx, hto1, hto2, hto3, hto4, hto5⟩ : ∃ jx : Nat, at' < jx ∧ jx ≤ m2 ∧ (b.drop at').take (jx - at') = chunk b Nn k ∧ min ((k + 1) * Nn) m2 = jx ∧ jx = at' + Nn := ⟨_, by omega, by omega, by rw [show at' + Nn - at' = Nn by omega, ← hat]; rfl, by rw [Nat.add_mul, Nat.one_mul, hat]; omega, rfl⟩
        have hpl : (chunk b Nn k).length = jx - at' := by rw [← hto3, List.length_take, List.length_drop]; omega
        obtain ⟨A', c', hsl, hrd⟩ := HI.out.rd.cut_both (k := at') (j := jx) (by omega) hto2
        rw [hto3] at hrd
        obtain ⟨pl, hple⟩ : ∃ pl, jx - at' = pl := ⟨_, rfl⟩
        rw [hpl, hple] at ho
        rw [hple] at hsl hrd
        rw [hpl, hple]
        have hp0 : ¬ ((pl : Int) = 0) := by omega
        have hp1 : ((pl : Int) == 0) = false := by rw [beq_eq_false_iff_ne]; omega
        have hd1 : decide ((Nn : Int) < 1) = false := decide_eq_false (by omega)
        have HO := Lib.hid (And.intro ho (And.intro hrd (And.intro hto1 (And.intro hto2 (And.intro hto4 (And.intro hkN hlt))))))
        have htx : IntKind.i64.wrap ((at' : Int) + Nn) = (jx : Int) := by rw [hto5, IntWalk.i64_in _ (by omega)]; omega
        clear hml hkn ho hrd hto1 hto2 hto4 hto5 hto3 hpl hple hat
        gi_wp2
        refine region_roundOld (by kernel_rfl) (by rintro ⟨a, w, h⟩; exact h) (by kernel_rfl) (fun wd hHeld hSz => ?_)
        have HSz := Lib.hid hSz
        clear hSz
        refine takeL (i := 0) (v := ?_) rfl (by kernel_rfl) (by kernel_rfl) (by kernel_rfl) (fun _ _ _ h => h) (Or.inl ⟨by rfl, ?_⟩) hHeld ?_
        rotate_left
        focus (intro wq hSw; have cq := (HI.out.b1.below hSw).cell 0; simp only [List.getElem?_toArray, List.getElem?_cons_zero] at cq; clear hSw; go_simp; try with_reducible rfl)
        try simp only [Act.put, List.setIfInBounds_toArray, List.set_cons_zero, List.set_cons_succ]
        refine takeL (i := 1) (v := ?_) rfl (by kernel_rfl) (by kernel_rfl) (by kernel_rfl) (fun _ _ _ h => h) (Or.inl ⟨by rfl, ?_⟩) hHeld ?_
        rotate_left
        focus (intro wq hSw; clear hSw; go_simp; try with_reducible rfl)
        try simp only [Act.put, List.setIfInBounds_toArray, List.set_cons_zero, List.set_cons_succ]
        refine takeL (i := 2) (v := ?_) rfl (by kernel_rfl) (by kernel_rfl) (by kernel_rfl) (fun _ _ _ h => h) (Or.inl ⟨by rfl, ?_⟩) hHeld ?_
        rotate_left
        focus (intro wq hSw; clear hSw; go_simp; try with_reducible rfl)
        try simp only [Act.put, List.setIfInBounds_toArray, List.set_cons_zero, List.set_cons_succ]
        refine takeL (i := 3) (v := ?_) rfl (by kernel_rfl) (by kernel_rfl) (by kernel_rfl) (fun _ _ _ h => h) (Or.inl ⟨by rfl, ?_⟩) hHeld ?_
        rotate_left
        focus (intro wq hSw; clear hSw; go_simp; try with_reducible rfl)
        try simp only [Act.put, List.setIfInBounds_toArray, List.set_cons_zero, List.set_cons_succ]
        refine takeL (i := 4) (v := ?_) rfl (by kernel_rfl) (by kernel_rfl) (by kernel_rfl) (fun _ _ _ h => h) (Or.inl ⟨by rfl, ?_⟩) hHeld ?_
        rotate_left
        focus (intro wq hSw; have cq := (HI.out.b5.below hSw).cell 0; simp only [List.getElem?_toArray, List.getElem?_cons_zero] at cq; clear hSw; go_simp; try with_reducible rfl)
        try simp only [Act.put, List.setIfInBounds_toArray, List.set_cons_zero, List.set_cons_succ]
        refine takeL (i := 5) (v := ?_) rfl (by kernel_rfl) (by kernel_rfl) (by kernel_rfl) (fun _ _ _ h => h) (Or.inl ⟨by rfl, ?_⟩) hHeld ?_
        rotate_left
        focus (intro wq hSw; clear hSw; go_simp; try with_reducible rfl)
        try simp only [Act.put, List.setIfInBounds_toArray, List.set_cons_zero, List.set_cons_succ]
        refine takeL (i := 6) (v := ?_) rfl (by kernel_rfl) (by kernel_rfl) (by kernel_rfl) (fun _ _ _ h => h) (Or.inl ⟨by rfl, ?_⟩) hHeld ?_
        rotate_left
        focus (intro wq hSw; clear hSw; go_simp; try with_reducible rfl)
        try simp only [Act.put, List.setIfInBounds_toArray, List.set_cons_zero, List.set_cons_succ]
        refine takeL (i := 7) (v := ?_) rfl (by kernel_rfl) (by kernel_rfl) (by kernel_rfl) (fun _ _ _ h => h) (Or.inl ⟨by rfl, ?_⟩) hHeld ?_
        rotate_left
        focus (intro wq hSw; clear hSw; go_simp; try with_reducible rfl)
        try simp only [Act.put, List.setIfInBounds_toArray, List.set_cons_zero, List.set_cons_succ]
        refine takeL (i := 8) (v := ?_) rfl (by kernel_rfl) (by kernel_rfl) (by kernel_rfl) (fun _ _ _ h => h) (Or.inl ⟨by rfl, ?_⟩) hHeld ?_
        rotate_left
        focus (intro wq hSw; clear hSw; go_simp; try with_reducible rfl)
        try simp only [Act.put, List.setIfInBounds_toArray, List.set_cons_zero, List.set_cons_succ]
        refine takeL (i := 9) (v := ?_) rfl (by kernel_rfl) (by kernel_rfl) (by kernel_rfl) (fun _ _ _ h => h) (Or.inl ⟨by rfl, ?_⟩) hHeld ?_
        rotate_left
        focus (intro wq hSw; have hRun := HO.out.1.rd.str_below hSw; clear hSw; go_simp; try with_reducible rfl)
        try simp only [Act.put, List.setIfInBounds_toArray, List.set_cons_zero, List.set_cons_succ]
        refine takeL (i := 10) (v := ?_) rfl (by kernel_rfl) (by kernel_rfl) (by kernel_rfl) (fun _ _ _ h => h) (Or.inl ⟨by rfl, ?_⟩) hHeld ?_
        rotate_left
        focus (intro wq hSw; have cq := (HI.out.b0.below hSw).cell 0; simp only [List.getElem?_toArray, List.getElem?_cons_zero] at cq; clear hSw; go_simp; try with_reducible rfl)
        try simp only [Act.put, List.setIfInBounds_toArray, List.set_cons_zero, List.set_cons_succ]
        refine takeL (i := 11) (v := ?_) rfl (by kernel_rfl) (by kernel_rfl) (by kernel_rfl) (fun _ _ _ h => h) (Or.inl ⟨by rfl, ?_⟩) hHeld ?_
        rotate_left
        focus (intro wq hSw; have cq := (HI.out.b6.below hSw).cell 0; simp only [List.getElem?_toArray, List.getElem?_cons_zero] at cq; clear hSw; go_simp; try with_reducible rfl)
        try simp only [Act.put, List.setIfInBounds_toArray, List.set_cons_zero, List.set_cons_succ]
        refine takeL (i := 12) (v := ?_) rfl (by kernel_rfl) (by kernel_rfl) (by kernel_rfl) (fun _ _ _ h => h) (Or.inl ⟨by rfl, ?_⟩) hHeld ?_
        rotate_left
        focus (intro wq hSw; clear hSw; go_simp; try with_reducible rfl)
        try simp only [Act.put, List.setIfInBounds_toArray, List.set_cons_zero, List.set_cons_succ]
        refine takeL (i := 13) (v := ?_) rfl (by kernel_rfl) (by kernel_rfl) (by kernel_rfl) (fun _ _ _ h => h) (Or.inl ⟨by rfl, ?_⟩) hHeld ?_
        rotate_left
        focus (intro wq hSw; clear hSw; go_simp; try with_reducible rfl)
        try simp only [Act.put, List.setIfInBounds_toArray, List.set_cons_zero, List.set_cons_succ]
        refine takeL (i := 14) (v := ?_) rfl (by kernel_rfl) (by kernel_rfl) (by kernel_rfl) (fun _ _ _ h => h) (Or.inl ⟨by rfl, ?_⟩) hHeld ?_
        rotate_left
        focus (intro wq hSw; have hRun := HO.out.2.1.str_below hSw; clear hSw; go_simp; try with_reducible rfl)
        try simp only [Act.put, List.setIfInBounds_toArray, List.set_cons_zero, List.set_cons_succ]
        refine takeL (i := 15) (v := ?_) rfl (by kernel_rfl) (by kernel_rfl) (by kernel_rfl) (fun _ _ _ h => h) (Or.inl ⟨by rfl, ?_⟩) hHeld ?_
        rotate_left
        focus (intro wq hSw; clear hSw; go_simp; try with_reducible rfl)
        try simp only [Act.put, List.setIfInBounds_toArray, List.set_cons_zero, List.set_cons_succ]
        refine takeL (i := 16) (v := ?_) rfl (by kernel_rfl) (by kernel_rfl) (by kernel_rfl) (fun _ _ _ h => h) (Or.inl ⟨by rfl, ?_⟩) hHeld ?_
        rotate_left
        focus (intro wq hSw; clear hSw; go_simp; try with_reducible rfl)
        try simp only [Act.put, List.setIfInBounds_toArray, List.set_cons_zero, List.set_cons_succ]
        refine takeL (i := 17) (v := ?_) rfl (by kernel_rfl) (by kernel_rfl) (by kernel_rfl) (fun _ _ _ h => h) (Or.inl ⟨by rfl, ?_⟩) hHeld ?_
        rotate_left
        focus (intro wq hSw; clear hSw; go_simp; try with_reducible rfl)
        try simp only [Act.put, List.setIfInBounds_toArray, List.set_cons_zero, List.set_cons_succ]
        refine takeL (i := 18) (v := ?_) rfl (by kernel_rfl) (by kernel_rfl) (by kernel_rfl) (fun _ _ _ h => h) (Or.inl ⟨by rfl, ?_⟩) hHeld ?_
        rotate_left
        focus (intro wq hSw; clear hSw; go_simp; try with_reducible rfl)
        try simp only [Act.put, List.setIfInBounds_toArray, List.set_cons_zero, List.set_cons_succ]
        refine takeL (i := 19) (v := ?_) rfl (by kernel_rfl) (by kernel_rfl) (by kernel_rfl) (fun _ _ _ h => h) (Or.inl ⟨by rfl, ?_⟩) hHeld ?_
        rotate_left
        focus (intro wq hSw; clear hSw; go_simp; try with_reducible rfl)
        try simp only [Act.put, List.setIfInBounds_toArray, List.set_cons_zero, List.set_cons_succ]
        refine takeL (i := 20) (v := ?_) rfl (by kernel_rfl) (by kernel_rfl) (by kernel_rfl) (fun _ _ _ h => h) (Or.inl ⟨by rfl, ?_⟩) hHeld ?_
        rotate_left
        focus (intro wq hSw; clear hSw; go_simp; try with_reducible rfl)
        try simp only [Act.put, List.setIfInBounds_toArray, List.set_cons_zero, List.set_cons_succ]
        refine takeL (i := 21) (v := ?_) rfl (by kernel_rfl) (by kernel_rfl) (by kernel_rfl) (fun _ _ _ h => h) (Or.inl ⟨by rfl, ?_⟩) hHeld ?_
        rotate_left
        focus (intro wq hSw; clear hSw; go_simp; try with_reducible rfl)
        try simp only [Act.put, List.setIfInBounds_toArray, List.set_cons_zero, List.set_cons_succ]
        refine wpAnyH_done (by kernel_rfl) ?_ _
        simp only [Exit.then]
        have HD := Lib.hid (And.intro (HI.out.turn (Turn.of_below [] hHeld) HZ.out.2.1 HZ.out.2.2 (by simp)) hHeld)
        have e1 := HD.out.1.b5.cell 0
        have e2 := HD.out.1.b6.cell 0
        have e3 := HD.out.1.b2.cell 0
        have e4 := HD.out.1.b4.cell 0
        have e5 := HD.out.1.b3.cell 0
        have g1 := HD.out.1.b5.frozen 0
        have g2 := HD.out.1.b6.frozen 0
        have g3 := HD.out.1.b3.frozen 0
        simp only [List.getElem?_toArray, List.getElem?_cons_zero] at e1 e2 e3 e4 e5
        clear hHeld c0 c1 c6 hsl
        have hX := HZ.out.2.1
        have x1 : X + 1 + 1 + 1 ≠ X + 1 + 1 + 1 + 1 := by omega
        have x2 : X ≠ X + 1 + 1 + 1 ∧ X ≠ X + 1 + 1 + 1 + 1 := by omega
        by_cases hmo : (k : Int) + 1 = most
        · gi_wp2
          obtain ⟨hT, hB, hO⟩ := HD.out.1.last (j := jx) (v := most) HZ.out.2.1
          have hz := HZ.out
          have hTW := (Turn.of_below _ HD.out.2).trans hT (fun x hx => .inl hx)
          exact ⟨⟨_, hTW, by simp; omega, by simp; omega⟩, rfl, hB, hO⟩
        · gi_wp2
          obtain ⟨hT, hI⟩ := HD.out.1.step (j := jx) (v := (k : Int) + 1) HZ.out.2.1 HZ.out.2.2
          have hz := HZ.out
          have hTW := (Turn.of_below _ HD.out.2).trans hT (fun x hx => .inl hx)
          obtain ⟨hm1, hm2, A0, m0, c0', hm3, hm4, hm5⟩ := HMi.out
          refine ⟨⟨_, hTW, by simp; omega, by simp; omega⟩, ?_, hm1.turn hTW (by simp), Nat.le_trans hm2 hTW.size, A0, m0, c0', hm3.turn hTW (by simp), hm4.turn hTW (fun ad had hm => by have := hm5 ad had; have := HsA.out.2.2; simp at hm; omega), hm5⟩
          show ChI w X A _ c _ most b _ ((min ((k + 1) * Nn) _ : Nat) : Int) _
          rw [HO.out.2.2.2.2.1]
          exact hI
      · have hli : ¬ ((Nn : Int) < (m2 : Int) - at') := by omega
        obtain ⟨jx, hto1, hto2, hto3, hto4, hto5⟩ : ∃ jx : Nat, at' < jx ∧ jx ≤ m2 ∧ (b.drop at').take (jx - at') = chunk b Nn k ∧ min ((k + 1) * Nn) m2 = jx ∧ jx = m2 := ⟨_, by omega, Nat.le_refl _, by rw [← hat]; unfold chunk; rw [List.take_of_length_le (by rw [List.length_drop]; omega), List.take_of_length_le (by rw [List.length_drop]; omega)], by rw [Nat.add_mul, Nat.one_mul, hat]; omega, rfl⟩
        have hpl : (chunk b Nn k).length = jx - at' := by rw [← hto3, List.length_take, List.length_drop]; omega
        obtain ⟨A', c', hsl, hrd⟩ := HI.out.rd.cut_both (k := at') (j := jx) (by omega) hto2
        rw [hto3] at hrd
        obtain ⟨pl, hple⟩ : ∃ pl, jx - at' = pl := ⟨_, rfl⟩
        rw [hpl, hple] at ho
        rw [hple] at hsl hrd
        rw [hpl, hple]
        have hp0 : ¬ ((pl : Int) = 0) := by omega
        have hp1 : ((pl : Int) == 0) = false := by rw [beq_eq_false_iff_ne]; omega
        have hd1 : decide ((Nn : Int) < 1) = false := decide_eq_false (by omega)
        have HO := Lib.hid (And.intro ho (And.intro hrd (And.intro hto1 (And.intro hto2 (And.intro hto4 (And.intro hkN hlt))))))
        subst hto5
        clear hml hkn ho hrd hto1 hto2 hto4 hto3 hpl hple hat
        gi_wp2
        refine region_roundOld (by kernel_rfl) (by rintro ⟨a, w, h⟩; exact h) (by kernel_rfl) (fun wd hHeld hSz => ?_)
        have HSz := Lib.hid hSz
        clear hSz
        refine takeL (i := 0) (v := ?_) rfl (by kernel_rfl) (by kernel_rfl) (by kernel_rfl) (fun _ _ _ h => h) (Or.inl ⟨by rfl, ?_⟩) hHeld ?_
        rotate_left
        focus (intro wq hSw; have cq := (HI.out.b1.below hSw).cell 0; simp only [List.getElem?_toArray, List.getElem?_cons_zero] at cq; clear hSw; go_simp; try with_reducible rfl)
        try simp only [Act.put, List.setIfInBounds_toArray, List.set_cons_zero, List.set_cons_succ]
        refine takeL (i := 1) (v := ?_) rfl (by kernel_rfl) (by kernel_rfl) (by kernel_rfl) (fun _ _ _ h => h) (Or.inl ⟨by rfl, ?_⟩) hHeld ?_
        rotate_left
        focus (intro wq hSw; clear hSw; go_simp; try with_reducible rfl)
        try simp only [Act.put, List.setIfInBounds_toArray, List.set_cons_zero, List.set_cons_succ]
        refine takeL (i := 2) (v := ?_) rfl (by kernel_rfl) (by kernel_rfl) (by kernel_rfl) (fun _ _ _ h => h) (Or.inl ⟨by rfl, ?_⟩) hHeld ?_
        rotate_left
        focus (intro wq hSw; clear hSw; go_simp; try with_reducible rfl)
        try simp only [Act.put, List.setIfInBounds_toArray, List.set_cons_zero, List.set_cons_succ]
        refine takeL (i := 3) (v := ?_) rfl (by kernel_rfl) (by kernel_rfl) (by kernel_rfl) (fun _ _ _ h => h) (Or.inl ⟨by rfl, ?_⟩) hHeld ?_
        rotate_left
        focus (intro wq hSw; clear hSw; go_simp; try with_reducible rfl)
        try simp only [Act.put, List.setIfInBounds_toArray, List.set_cons_zero, List.set_cons_succ]
        refine takeL (i := 4) (v := ?_) rfl (by kernel_rfl) (by kernel_rfl) (by kernel_rfl) (fun _ _ _ h => h) (Or.inl ⟨by rfl, ?_⟩) hHeld ?_
        rotate_left
        focus (intro wq hSw; have cq := (HI.out.b5.below hSw).cell 0; simp only [List.getElem?_toArray, List.getElem?_cons_zero] at cq; clear hSw; go_simp; try with_reducible rfl)
        try simp only [Act.put, List.setIfInBounds_toArray, List.set_cons_zero, List.set_cons_succ]
        refine takeL (i := 5) (v := ?_) rfl (by kernel_rfl) (by kernel_rfl) (by kernel_rfl) (fun _ _ _ h => h) (Or.inl ⟨by rfl, ?_⟩) hHeld ?_
        rotate_left
        focus (intro wq hSw; clear hSw; go_simp; try with_reducible rfl)
        try simp only [Act.put, List.setIfInBounds_toArray, List.set_cons_zero, List.set_cons_succ]
        refine takeL (i := 6) (v := ?_) rfl (by kernel_rfl) (by kernel_rfl) (by kernel_rfl) (fun _ _ _ h => h) (Or.inl ⟨by rfl, ?_⟩) hHeld ?_
        rotate_left
        focus (intro wq hSw; clear hSw; go_simp; try with_reducible rfl)
        try simp only [Act.put, List.setIfInBounds_toArray, List.set_cons_zero, List.set_cons_succ]
        refine takeL (i := 7) (v := ?_) rfl (by kernel_rfl) (by kernel_rfl) (by kernel_rfl) (fun _ _ _ h => h) (Or.inl ⟨by rfl, ?_⟩) hHeld ?_
        rotate_left
        focus (intro wq hSw; clear hSw; go_simp; try with_reducible rfl)
        try simp only [Act.put, List.setIfInBounds_toArray, List.set_cons_zero, List.set_cons_succ]
        refine takeL (i := 8) (v := ?_) rfl (by kernel_rfl) (by kernel_rfl) (by kernel_rfl) (fun _ _ _ h => h) (Or.inl ⟨by rfl, ?_⟩) hHeld ?_
        rotate_left
        focus (intro wq hSw; clear hSw; go_simp; try with_reducible rfl)
        try simp only [Act.put, List.setIfInBounds_toArray, List.set_cons_zero, List.set_cons_succ]
        refine takeL (i := 9) (v := ?_) rfl (by kernel_rfl) (by kernel_rfl) (by kernel_rfl) (fun _ _ _ h => h) (Or.inl ⟨by rfl, ?_⟩) hHeld ?_
        rotate_left
        focus (intro wq hSw; have hRun := HO.out.1.rd.str_below hSw; clear hSw; go_simp; try with_reducible rfl)
        try simp only [Act.put, List.setIfInBounds_toArray, List.set_cons_zero, List.set_cons_succ]
        refine takeL (i := 10) (v := ?_) rfl (by kernel_rfl) (by kernel_rfl) (by kernel_rfl) (fun _ _ _ h => h) (Or.inl ⟨by rfl, ?_⟩) hHeld ?_
        rotate_left
        focus (intro wq hSw; have cq := (HI.out.b0.below hSw).cell 0; simp only [List.getElem?_toArray, List.getElem?_cons_zero] at cq; clear hSw; go_simp; try with_reducible rfl)
        try simp only [Act.put, List.setIfInBounds_toArray, List.set_cons_zero, List.set_cons_succ]
        refine takeL (i := 11) (v := ?_) rfl (by kernel_rfl) (by kernel_rfl) (by kernel_rfl) (fun _ _ _ h => h) (Or.inl ⟨by rfl, ?_⟩) hHeld ?_
        rotate_left
        focus (intro wq hSw; have cq := (HI.out.b6.below hSw).cell 0; simp only [List.getElem?_toArray, List.getElem?_cons_zero] at cq; clear hSw; go_simp; try with_reducible rfl)
        try simp only [Act.put, List.setIfInBounds_toArray, List.set_cons_zero, List.set_cons_succ]
        refine takeL (i := 12) (v := ?_) rfl (by kernel_rfl) (by kernel_rfl) (by kernel_rfl) (fun _ _ _ h => h) (Or.inl ⟨by rfl, ?_⟩) hHeld ?_
        rotate_left
        focus (intro wq hSw; clear hSw; go_simp; try with_reducible rfl)
        try simp only [Act.put, List.setIfInBounds_toArray, List.set_cons_zero, List.set_cons_succ]
        refine takeL (i := 13) (v := ?_) rfl (by kernel_rfl) (by kernel_rfl) (by kernel_rfl) (fun _ _ _ h => h) (Or.inl ⟨by rfl, ?_⟩) hHeld ?_
        rotate_left
        focus (intro wq hSw; clear hSw; go_simp; try with_reducible rfl)
        try simp only [Act.put, List.setIfInBounds_toArray, List.set_cons_zero, List.set_cons_succ]
        refine takeL (i := 14) (v := ?_) rfl (by kernel_rfl) (by kernel_rfl) (by kernel_rfl) (fun _ _ _ h => h) (Or.inl ⟨by rfl, ?_⟩) hHeld ?_
        rotate_left
        focus (intro wq hSw; have hRun := HO.out.2.1.str_below hSw; clear hSw; go_simp; try with_reducible rfl)
        try simp only [Act.put, List.setIfInBounds_toArray, List.set_cons_zero, List.set_cons_succ]
        refine takeL (i := 15) (v := ?_) rfl (by kernel_rfl) (by kernel_rfl) (by kernel_rfl) (fun _ _ _ h => h) (Or.inl ⟨by rfl, ?_⟩) hHeld ?_
        rotate_left
        focus (intro wq hSw; clear hSw; go_simp; try with_reducible rfl)
        try simp only [Act.put, List.setIfInBounds_toArray, List.set_cons_zero, List.set_cons_succ]
        refine takeL (i := 16) (v := ?_) rfl (by kernel_rfl) (by kernel_rfl) (by kernel_rfl) (fun _ _ _ h => h) (Or.inl ⟨by rfl, ?_⟩) hHeld ?_
        rotate_left
        focus (intro wq hSw; clear hSw; go_simp; try with_reducible rfl)
        try simp only [Act.put, List.setIfInBounds_toArray, List.set_cons_zero, List.set_cons_succ]
        refine takeL (i := 17) (v := ?_) rfl (by kernel_rfl) (by kernel_rfl) (by kernel_rfl) (fun _ _ _ h => h) (Or.inl ⟨by rfl, ?_⟩) hHeld ?_
        rotate_left
        focus (intro wq hSw; clear hSw; go_simp; try with_reducible rfl)
        try simp only [Act.put, List.setIfInBounds_toArray, List.set_cons_zero, List.set_cons_succ]
        refine takeL (i := 18) (v := ?_) rfl (by kernel_rfl) (by kernel_rfl) (by kernel_rfl) (fun _ _ _ h => h) (Or.inl ⟨by rfl, ?_⟩) hHeld ?_
        rotate_left
        focus (intro wq hSw; clear hSw; go_simp; try with_reducible rfl)
        try simp only [Act.put, List.setIfInBounds_toArray, List.set_cons_zero, List.set_cons_succ]
        refine takeL (i := 19) (v := ?_) rfl (by kernel_rfl) (by kernel_rfl) (by kernel_rfl) (fun _ _ _ h => h) (Or.inl ⟨by rfl, ?_⟩) hHeld ?_
        rotate_left
        focus (intro wq hSw; clear hSw; go_simp; try with_reducible rfl)
        try simp only [Act.put, List.setIfInBounds_toArray, List.set_cons_zero, List.set_cons_succ]
        refine takeL (i := 20) (v := ?_) rfl (by kernel_rfl) (by kernel_rfl) (by kernel_rfl) (fun _ _ _ h => h) (Or.inl ⟨by rfl, ?_⟩) hHeld ?_
        rotate_left
        focus (intro wq hSw; clear hSw; go_simp; try with_reducible rfl)
        try simp only [Act.put, List.setIfInBounds_toArray, List.set_cons_zero, List.set_cons_succ]
        refine takeL (i := 21) (v := ?_) rfl (by kernel_rfl) (by kernel_rfl) (by kernel_rfl) (fun _ _ _ h => h) (Or.inl ⟨by rfl, ?_⟩) hHeld ?_
        rotate_left
        focus (intro wq hSw; clear hSw; go_simp; try with_reducible rfl)
        try simp only [Act.put, List.setIfInBounds_toArray, List.set_cons_zero, List.set_cons_succ]
        refine wpAnyH_done (by kernel_rfl) ?_ _
        simp only [Exit.then]
        have HD := Lib.hid (And.intro (HI.out.turn (Turn.of_below [] hHeld) HZ.out.2.1 HZ.out.2.2 (by simp)) hHeld)
        have e1 := HD.out.1.b5.cell 0
        have e2 := HD.out.1.b6.cell 0
        have e3 := HD.out.1.b2.cell 0
        have e4 := HD.out.1.b4.cell 0
        have e5 := HD.out.1.b3.cell 0
        have g1 := HD.out.1.b5.frozen 0
        have g2 := HD.out.1.b6.frozen 0
        have g3 := HD.out.1.b3.frozen 0
        simp only [List.getElem?_toArray, List.getElem?_cons_zero] at e1 e2 e3 e4 e5
        clear hHeld c0 c1 c6 hsl
        have hX := HZ.out.2.1
        have x1 : X + 1 + 1 + 1 ≠ X + 1 + 1 + 1 + 1 := by omega
        have x2 : X ≠ X + 1 + 1 + 1 ∧ X ≠ X + 1 + 1 + 1 + 1 := by omega
        by_cases hmo : (k : Int) + 1 = most
        · gi_wp2
          obtain ⟨hT, hB, hO⟩ := HD.out.1.last (j := jx) (v := most) HZ.out.2.1
          have hz := HZ.out
          have hTW := (Turn.of_below _ HD.out.2).trans hT (fun x hx => .inl hx)
          exact ⟨⟨_, hTW, by simp; omega, by simp; omega⟩, rfl, hB, hO⟩
        · gi_wp2
          obtain ⟨hT, hI⟩ := HD.out.1.step (j := jx) (v := (k : Int) + 1) HZ.out.2.1 HZ.out.2.2
          have hz := HZ.out
          have hTW := (Turn.of_below _ HD.out.2).trans hT (fun x hx => .inl hx)
          obtain ⟨hm1, hm2, A0, m0, c0', hm3, hm4, hm5⟩ := HMi.out
          refine ⟨⟨_, hTW, by simp; omega, by simp; omega⟩, ?_, hm1.turn hTW (by simp), Nat.le_trans hm2 hTW.size, A0, m0, c0', hm3.turn hTW (by simp), hm4.turn hTW (fun ad had hm => by have := hm5 ad had; have := HsA.out.2.2; simp at hm; omega), hm5⟩
          show ChI w X A _ c _ most b _ ((min ((k + 1) * Nn) _ : Nat) : Int) _
          rw [HO.out.2.2.2.2.1]
          exact hI
    case hdone =>
      rintro W hlt h hK
      have hN : min (chunks b Nn * Nn) m2 = m2 := by
        have h1 := mt (chunks_lt b Nn (chunks b Nn) hN1).2 (Nat.lt_irrefl _)
        have := Hml.out
        omega
      rw [hN] at h
      have c0 := h.b0.cell 0
      have c1 := h.b1.cell 0
      have c3 := h.b3.cell 0
      have c4 := h.b4.cell 0
      have c5 := h.b5.cell 0
      have c6 := h.b6.cell 0
      have f3 := h.b3.frozen 0
      simp only [List.getElem?_toArray, List.getElem?_cons_zero] at c0 c1 c3 c4 c5 c6
      have HI := Lib.hid h
      have hd1 : decide ((Nn : Int) < 1) = false := decide_eq_false (by omega)
      have hd2 : decide ((1 : Int) ≤ Nn) = true := decide_eq_true (by omega)
      clear h hN
      go_wp2_with fail
      have hT := (Turn.refl [w.heap.size + 1 + 1 + 1] W).setCell (p := ⟨w.heap.size + 1 + 1 + 1, 0, none⟩) (.inl (by simp)) (.bool true)
      have hlt' := HZ.out.1
      have hlt2 := HZ.out.2.1
      exact Hgo.out.2.2 _ _ rfl rfl (HI.out.b3.set_ 0 _) (HI.out.old.turned hT (by simp; omega)) ((hT.block _ (by omega) (by simp; omega)).trans hK)
    case hstop =>
      rintro c k W hlt hkN ⟨rfl, hB, hO⟩ hK
      have HB := Lib.hid (And.intro hB (And.intro hO hK))
      clear hB hO hK
      go_wp2_with fail
      exact Hgo.out.2.2 _ _ rfl rfl HB.out.1 HB.out.2.1 HB.out.2.2
end Go.Proofs.YtdlipoklhojjkaaDoor
