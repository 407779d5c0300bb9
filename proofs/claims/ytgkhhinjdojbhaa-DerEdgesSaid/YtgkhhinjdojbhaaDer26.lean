/-
  DER: the laws' cut of a node.
-/
import Derived.Test.YtgkhhinjdojbhaaDer24
import Derived.Test.YtgkhhinjdojbhaaEmptyE
namespace Go.Proofs.Ytgkhhinjdojbhaa
open Go.RowKit

mutual
/-- A node that is not too great; d: so many levels below may be; how many nodes there may be yet. -/
def Nd.someN : Nat → Int → Nd → Nd × Int
  | d, left, .mk t b ks => (.mk t (b.take 200) (someAll d (left - 1) ks).1, (someAll d (left - 1) ks).2)
def someAll : Nat → Int → List Nd → List Nd × Int
  | _, left, [] => ([], left)
  | d, left, k :: ks => if 0 < left ∧ 0 < d then ((k.someN (d - 1) left).1 :: (someAll d (k.someN (d - 1) left).2 ks).1, (someAll d (k.someN (d - 1) left).2 ks).2) else ([], left)
end
theorem someAll_nil (d : Nat) (left : Int) : someAll d left [] = ([], left) := by rw [someAll]
theorem someAll_stop {d : Nat} {left : Int} (ks : List Nd) (h : ¬ (0 < left ∧ 0 < d)) : someAll d left ks = ([], left) := by
  cases ks with
  | nil => rw [someAll]
  | cons k ks => rw [someAll, if_neg h]
theorem someAll_step {d : Nat} {left : Int} {ks : List Nd} {j : Nat} {k : Nd} (hj : ks[j]? = some k) (h : 0 < left ∧ 0 < d) : someAll d left (ks.drop j) = ((k.someN (d - 1) left).1 :: (someAll d (k.someN (d - 1) left).2 (ks.drop (j + 1))).1, (someAll d (k.someN (d - 1) left).2 (ks.drop (j + 1))).2) := by
  obtain ⟨hl, rfl⟩ := List.getElem?_eq_some_iff.1 hj
  rw [List.drop_eq_getElem_cons hl, someAll, if_pos h]
theorem someN_left (n : Nd) : ∀ (d : Nat) (left : Int), 1 ≤ left → 0 ≤ (n.someN d left).2 ∧ (n.someN d left).2 ≤ left - 1 := by
  refine Nd.rec' (P := fun n => ∀ (d : Nat) (left : Int), 1 ≤ left → 0 ≤ (n.someN d left).2 ∧ (n.someN d left).2 ≤ left - 1) ?_ n
  intro t b ks ih d left h
  rw [Nd.someN]
  simp only
  have hall : ∀ (l : List Nd), (∀ k ∈ l, k ∈ ks) → ∀ left : Int, 0 ≤ left → 0 ≤ (someAll d left l).2 ∧ (someAll d left l).2 ≤ left := by
    intro l
    induction l with
    | nil => intro _ left h; rw [someAll]; exact ⟨h, Int.le_refl _⟩
    | cons k l ihl =>
      intro hm left h
      rw [someAll]
      by_cases hc : 0 < left ∧ 0 < d
      · rw [if_pos hc]
        obtain ⟨a1, a2⟩ := ih k (hm k (by simp)) (d - 1) left (by omega)
        obtain ⟨b1, b2⟩ := ihl (fun x hx => hm x (by simp [hx])) (k.someN (d - 1) left).2 a1
        exact ⟨b1, by simp only; omega⟩
      · rw [if_neg hc]; exact ⟨h, Int.le_refl _⟩
  exact hall ks (fun _ h => h) (left - 1) (by omega)
mutual
/-- All bytes are few. -/
def Nd.small : Nd → Bool | .mk _ b ks => decide (b.length ≤ 200) && smallAll ks
def smallAll : List Nd → Bool | [] => true | k :: ks => k.small && smallAll ks
end
theorem smallAll_mem {l : List Nd} (h : ∀ k ∈ l, k.small = true) : smallAll l = true := by
  induction l with
  | nil => rfl
  | cons k l ih => rw [smallAll, h k (by simp), ih (fun x hx => h x (by simp [hx]))]; rfl
theorem someN_small (n : Nd) : ∀ (d : Nat) (left : Int), (n.someN d left).1.small = true := by
  refine Nd.rec' (P := fun n => ∀ (d : Nat) (left : Int), (n.someN d left).1.small = true) ?_ n
  intro t b ks ih d left
  rw [Nd.someN]
  simp only
  rw [Nd.small, decide_eq_true (by rw [List.length_take]; omega), Bool.true_and]
  have hall : ∀ (l : List Nd), (∀ k ∈ l, k ∈ ks) → ∀ left : Int, smallAll (someAll d left l).1 = true := by
    intro l
    induction l with
    | nil => intro _ left; rw [someAll]; rfl
    | cons k l ihl =>
      intro hm left
      rw [someAll]
      by_cases hc : 0 < left ∧ 0 < d
      · rw [if_pos hc]
        simp only
        rw [smallAll, ih k (hm k (by simp)) (d - 1) left, ihl (fun x hx => hm x (by simp [hx])) _]; rfl
      · rw [if_neg hc]; rfl
  exact hall ks (fun _ h => h) (left - 1)
theorem small_enc (n : Nd) : n.small = true → n.size ≤ 1024 → n.enc.length ≤ 210 * n.size := by
  refine Nd.rec' (P := fun n => n.small = true → n.size ≤ 1024 → n.enc.length ≤ 210 * n.size) ?_ n
  intro t b ks ih hs hz
  rw [Nd.small, Bool.and_eq_true, decide_eq_true_eq] at hs
  rw [Nd.size] at hz ⊢
  have hall : ∀ (l : List Nd), (∀ k ∈ l, k ∈ ks) → smallAll l = true → sizeAll l ≤ 1023 → (encAll l).length ≤ 210 * sizeAll l := by
    intro l
    induction l with
    | nil => intro _ _ _; rw [encAll, sizeAll]; simp
    | cons k l ihl =>
      intro hm hsm hsz
      rw [smallAll, Bool.and_eq_true] at hsm
      rw [sizeAll] at hsz ⊢
      rw [encAll, List.length_append]
      have := ih k (hm k (by simp)) hsm.1 (by omega)
      have := ihl (fun x hx => hm x (by simp [hx])) hsm.2 (by omega)
      omega
  have h1 := hall ks (fun _ h => h) hs.2 (by omega)
  rw [Nd.enc, hdr_len]
  by_cases ht : t = 48
  · rw [if_pos ht]
    have := lenB_le (n := (encAll ks).length) (by omega)
    omega
  · rw [if_neg ht]
    have := lenB_le (n := b.length) (by omega)
    omega
/-- What stands between two rounds. -/
structure SI (gl N7 d : Nat) (lim : Int) (t : Int) (a0 : List Nd × Int) (wG wr : World) (lf : Int) (ks rest : List Nd) (fs : List NF) (A5 : Option Addr) (n5 c5 : Nat) (A2 : Option Addr) (m2 c2 : Nat) : Prop where
  low : 0 ≤ lf
  high : lf ≤ lim
  ans : a0 = (ks ++ (someAll d lf rest).1, (someAll d lf rest).2)
  bG : Blk wr gl 3 #[.int .i64 lf]
  bN : Blk wr N7 25 #[.int .i64 t, .slice A5 n5 c5, .slice A2 m2 c2]
  own : OwnE Try.eN wr wG.heap.size (.slice A2 m2 c2) fs
  lens : fs.length = ks.length
  kids : ∀ (j : Nat) (g : NF) (k : Nd), fs[j]? = some g → ks[j]? = some k → NdR (fun b => (wG.heap.size ≤ b ∧ b < wr.heap.size) ∧ (Value.slice A2 m2 c2).ownBlock ≠ some b) NB2 wr g k
  few : ks.length + lf.toNat ≤ 1000
  turn : Turn [gl, N7] wG wr
theorem region_word2 {P : Program} {ops : Array Oper} {Q : Exit → Act → World → Prop} {id : Nat} {a : Act} {w : World} (S : World → Prop) (hS : ∀ wd, Old w wd → S wd) (hm : P.follows .mixedOrders = true)
    (h : ∀ wd, Old w wd → w.heap.size = wd.heap.size → S wd → wpAnyH P .any ops (NoPanic Q) S ops.size (Array.replicate ops.size false) a wd) : (Code.region id ops true).wp P Q a w :=
  wp_region_noPanic (wp_region_held_drew hm (hS _ (Old.drew (Old.refl w))) (fun hS => h _ (Old.drew (Old.refl w)) rfl hS))
/-- Of what was there when the loop began only two blocks turned. -/
def Keeps (gl N7 B : Nat) (wr w' : World) : Prop := w'.os = wr.os ∧ w'.tape = wr.tape ∧ w'.output = wr.output ∧ wr.heap.size ≤ w'.heap.size ∧ ∀ b, b < B → b ≠ gl → b ≠ N7 → w'.heap[b]? = wr.heap[b]?
theorem Keeps.of_old {gl N7 B : Nat} {wr w' : World} (hB : B ≤ wr.heap.size) (h : Old wr w') : Keeps gl N7 B wr w' := ⟨h.os, h.tape, h.output, h.size, fun b hb _ _ => h.block b (by omega)⟩
theorem Keeps.trans {gl N7 B : Nat} {wr w' w'' : World} (h : Keeps gl N7 B wr w') (k : Keeps gl N7 B w' w'') : Keeps gl N7 B wr w'' :=
  ⟨k.1.trans h.1, k.2.1.trans h.2.1, k.2.2.1.trans h.2.2.1, Nat.le_trans h.2.2.2.1 k.2.2.2.1, fun b hb h1 h2 => (k.2.2.2.2 b hb h1 h2).trans (h.2.2.2.2 b hb h1 h2)⟩
theorem Keeps.of_turn {gl N7 B : Nat} {wr w' : World} {S : List Nat} (hB : B ≤ wr.heap.size) (h : Turn S wr w') (hS : ∀ x ∈ S, x = gl ∨ x = N7) : Keeps gl N7 B wr w' :=
  ⟨h.os, h.tape, h.output, h.size, fun b hb h1 h2 => h.block b (by omega) (fun hm => (hS b hm).elim h1 h2)⟩
theorem Keeps.of_below {gl N7 B : Nat} {wr w' : World} (h : Below B wr w') : Keeps gl N7 B wr w' := ⟨h.os, h.tape, h.output, h.size, fun b hb _ _ => h.block b hb⟩
theorem Keeps.turn {gl N7 : Nat} {wG wr w' : World} (h : Turn [gl, N7] wG wr) (k : Keeps gl N7 wG.heap.size wr w') : Turn [gl, N7] wG w' :=
  ⟨k.1.trans h.os, k.2.1.trans h.tape, k.2.2.1.trans h.output, Nat.le_trans h.size k.2.2.2.1, fun b hb hn => (k.2.2.2.2 b hb (fun e => hn (by simp [e])) (fun e => hn (by simp [e]))).trans (h.block b hb hn)⟩
theorem Keeps.cell {gl N7 B : Nat} {wr w' : World} (h : Keeps gl N7 B wr w') {b o : Nat} {v : Value} (hb : b < B) (h1 : b ≠ gl) (h2 : b ≠ N7) (hc : wr.cell? ⟨b, o, none⟩ = some v) : w'.cell? ⟨b, o, none⟩ = some v :=
  (World.cell?_of_block (a := ⟨b, o, none⟩) (h.2.2.2.2 b hb h1 h2)).trans hc
theorem RdE.keep {w w' : World} {A : Option Addr} {m c : Nat} {l : List UInt8} (h : RdE w A m c l) (hs : w.heap.size ≤ w'.heap.size) (hk : ∀ a, 0 < c → A = some a → w'.heap[a.block]? = w.heap[a.block]?) : RdE w' A m c l := by
  rcases h with h | h
  · rcases Nat.eq_zero_or_pos c with h0 | h0
    · have h1 := h.1
      have h2 := h.2.1
      exact .inr ⟨by omega, h0, List.eq_nil_of_length_eq_zero (by omega)⟩
    · exact .inl (h.keep hs (fun a ha => hk a h0 ha))
  · exact .inr h
theorem RdE.turn {w w' : World} {S : List Nat} {A : Option Addr} {m c : Nat} {l : List UInt8} (h : RdE w A m c l) (ht : Turn S w w') (hk : ∀ a : Addr, 0 < c → A = some a → a.block < w.heap.size ∧ a.block ∉ S) : RdE w' A m c l :=
  h.keep ht.size (fun a h0 ha => ht.block _ (hk a h0 ha).1 (hk a h0 ha).2)
theorem RdC.keep0 {α : Type} {E : ETy α} {w w' : World} {A : Option Addr} {m : Nat} {l : List α} (h : RdC E w A m l) (hs : w.heap.size ≤ w'.heap.size) (hk : ∀ a : Addr, 0 < m → A = some a → w'.heap[a.block]? = w.heap[a.block]?) : RdC E w' A m l := by
  rcases Nat.eq_zero_or_pos m with h0 | h0
  · exact ⟨h.1, .inl h0⟩
  · exact h.keep hs (fun a ha => hk a h0 ha)
/-- A node that came in: a row of no room may lie anywhere. -/
inductive NdI (P : Nat → Prop) (W : World) : NF → Nd → Prop
  | mk (f : NF) (bs : List UInt8) (fs : List NF) (ks : List Nd) : RdE W f.A1 f.m1 f.c1 bs → (∀ a, 0 < f.c1 → f.A1 = some a → P a.block) → RdC Try.eN W f.A2 f.m2 fs → f.m2 ≤ maxLen → (∀ a, 0 < f.m2 → f.A2 = some a → P a.block) →
      fs.length = ks.length → (∀ (j : Nat) (g : NF) (k : Nd), fs[j]? = some g → ks[j]? = some k → NdI P W g k) → NdI P W f (.mk f.tag bs ks)
theorem NdI.keep {P : Nat → Prop} {W W' : World} {f : NF} {n : Nd} (h : NdI P W f n) (hs : W.heap.size ≤ W'.heap.size) (hk : ∀ b, P b → W'.heap[b]? = W.heap[b]?) : NdI P W' f n := by
  induction h with
  | mk f bs fs ks h1 h2 h3 h4 h5 h7 h8 ih =>
    exact .mk f bs fs ks (h1.keep hs (fun a h0 ha => hk _ (h2 a h0 ha))) h2 (h3.keep0 hs (fun a h0 ha => hk _ (h5 a h0 ha))) h4 h5 h7 (fun j g k hg hk' => ih j g k hg hk')
theorem NdI.turn {P : Nat → Prop} {W W' : World} {f : NF} {n : Nd} (h : NdI P W f n) {S : List Nat} (ht : Turn S W W') (hd : ∀ b, P b → b < W.heap.size ∧ b ∉ S) : NdI P W' f n :=
  h.keep ht.size (fun b hb => ht.block b (hd b hb).1 (hd b hb).2)
theorem NdI.bel {P : Nat → Prop} {W W' : World} {f : NF} {n : Nd} (h : NdI P W f n) (hb : Below W.heap.size W W') (hd : ∀ b, P b → b < W.heap.size) : NdI P W' f n :=
  h.keep hb.size (fun b hp => hb.block b (hd b hp))
theorem NdI.mono {P P' : Nat → Prop} {W : World} {f : NF} {n : Nd} (h : NdI P W f n) (hp : ∀ b, P b → P' b) : NdI P' W f n := by
  induction h with
  | mk f bs fs ks h1 h2 h3 h4 h5 h7 h8 ih =>
    exact .mk f bs fs ks h1 (fun a h0 ha => hp _ (h2 a h0 ha)) h3 h4 (fun a h0 ha => hp _ (h5 a h0 ha)) h7 (fun j g k hg hk' => ih j g k hg hk')
/-- append, as a region's step, of a row that is read or has no room. -/
theorem step_app_E {ops : Array Oper} {o : Oper} {a : Act} {w : World} {K : Act → World → Prop} {Q : Exit → Act → World → Prop} {E : Prop} (hgd : o.guard = none) (s x : Operand)
    (ho : o.op = .call { callee := .builtin .append, args := #[s, x], argTypes := #[22, 22] })
    (base : Nat) (v : Value) (l : List UInt8) (hs : a.eval s = v) (hown : Own w base v l)
    (A : Option Addr) (m c : Nat) (l2 : List UInt8) (hx : a.eval x = .slice A m c) (hrd : RdE w A m c l2) (hlen : l.length + l2.length ≤ 140737488351232) (hbase : base ≤ w.heap.size)
    (h : ∀ v' w', Own w' base v' (l ++ l2) → w.grownBy w' v.ownBlock → (v' = .slice none 0 0 ↔ v = .slice none 0 0 ∧ l2 = []) → (v'.ownBlock = v.ownBlock ∨ v'.ownBlock = some w.heap.size) → K (a.put o.dst v') w') :
    if Region.wanted o (yielded ops a.tmps) = true then Oper.wp Try.prog o a w K Q else E := by
  rcases hrd with hrd | ⟨rfl, rfl, rfl⟩
  · exact step_app hgd s x ho base v l hs hown A m c l2 hx hrd hlen hbase h
  · rw [if_pos (by simp [Region.wanted, hgd])]
    have hrun := run_append_E w base o.type v l hown A
    unfold Oper.wp
    simp only [execOp, ho, resolve, invoke, builtin, Sem.run_bind, Sem.run_pure, Result.andThen_ok, List.map_toArray, List.map_cons, List.map_nil, hs, hx, hrun]
    exact h v w (by rw [List.append_nil]; exact hown) ⟨rfl, rfl, rfl, Nat.le_refl _, fun _ _ _ => rfl⟩ (by simp) (.inl rfl)

set_option maxRecDepth 100000 in
set_option maxHeartbeats 8000000 in
theorem some_any (P : Nat → Prop) (gl : Nat) : ∀ (n : Nd) (f : NF) (d : Nat) (depth left : Int) (w : World), NdI P w f n → (∀ b, P b → b < w.heap.size ∧ b ≠ gl) → 1 ≤ left → left ≤ 1000 → d ≤ 17 → depth = 18 - (d : Int) → Blk w gl 3 #[.int .i64 left] →
    Calls Try.prog 36 #[f.val, .int .i64 depth, .pointer (some ⟨gl, 0, none⟩)] w fun e w' => ∃ f' : NF, e = .returned f'.val ∧ NdR (fun b => w.heap.size ≤ b ∧ b < w'.heap.size) NB2 w' f' (n.someN d left).1 ∧ Blk w' gl 3 #[.int .i64 (n.someN d left).2] ∧ Turn [gl] w w' := by
  intro n
  refine Nd.rec' (P := fun n => ∀ (f : NF) (d : Nat) (depth left : Int) (w : World), NdI P w f n → (∀ b, P b → b < w.heap.size ∧ b ≠ gl) → 1 ≤ left → left ≤ 1000 → d ≤ 17 → depth = 18 - (d : Int) → Blk w gl 3 #[.int .i64 left] →
      Calls Try.prog 36 #[f.val, .int .i64 depth, .pointer (some ⟨gl, 0, none⟩)] w fun e w' => ∃ f' : NF, e = .returned f'.val ∧ NdR (fun b => w.heap.size ≤ b ∧ b < w'.heap.size) NB2 w' f' (n.someN d left).1 ∧ Blk w' gl 3 #[.int .i64 (n.someN d left).2] ∧ Turn [gl] w w') ?_ n
  clear n
  intro tag bs ks ih f d depth left w hN hPl h1 h1000 hd17 hdep hB
  obtain ⟨ans, hans⟩ : ∃ ans, (Nd.mk tag bs ks).someN d left = ans := ⟨_, rfl⟩
  rw [hans]
  rw [Nd.someN] at hans
  cases hN with
  | mk _ _ fs _ hb hbP hk hkm hkP hl hkids =>
  obtain ⟨tag, A1, m1, c1, A2, m2, c2⟩ := f
  simp only at *
  have hm63 : (m2 : Int) ≤ 9223372036854775807 := by unfold maxLen at hkm; omega
  obtain ⟨X, hX⟩ : ∃ X, w.heap.size = X := ⟨_, rfl⟩
  have hglX : gl < X := by rw [← hX]; exact hB.lt
  obtain ⟨wA, hwA⟩ : ∃ wA, (w.alloc (.cells #[.int .i64 tag, .slice A1 m1 c1, .slice A2 m2 c2] 25)).alloc (.cells #[.int .i64 0, .slice none 0 0, .slice none 0 0] 25) = wA := ⟨_, rfl⟩
  have bA : Blk wA X 25 #[.int .i64 tag, .slice A1 m1 c1, .slice A2 m2 c2] := by rw [← hwA, ← hX]; exact (Blk.new _ _ _).alloc _
  have bR : Blk wA (X + 1) 25 #[.int .i64 0, .slice none 0 0, .slice none 0 0] := by rw [← hwA, show X + 1 = (w.alloc (.cells #[.int .i64 tag, .slice A1 m1 c1, .slice A2 m2 c2] 25)).heap.size by rw [← hX]; simp]; exact Blk.new _ _ _
  have hbA : Below w.heap.size w wA := by rw [← hwA]; exact ((Below.refl _ _).alloc (Nat.le_refl _) _).alloc (by simp) _
  have cl : wA.cell? ⟨gl, 0, none⟩ = some (.int .i64 left) := by rw [(hB.below hbA).cell]; rfl
  have fl := (hB.below hbA).frozen 0
  obtain ⟨w1, hw1⟩ : ∃ w1, wA.setCell ⟨gl, 0, none⟩ (.int .i64 (left - 1)) = w1 := ⟨_, rfl⟩
  have b1 : Blk w1 gl 3 #[.int .i64 (left - 1)] := by rw [← hw1]; have := (hB.below hbA).set_ 0 (.int .i64 (left - 1)); simpa using this
  have hT1 : Turn [gl] w w1 := by rw [← hw1]; exact (Turn.of_below _ hbA).setCell (.inl (by simp)) _
  have bX1 : Blk w1 X 25 #[.int .i64 tag, .slice A1 m1 c1, .slice A2 m2 c2] := by rw [← hw1]; exact bA.far (by simp; omega) _
  have bR1 : Blk w1 (X + 1) 25 #[.int .i64 0, .slice none 0 0, .slice none 0 0] := by rw [← hw1]; exact bR.far (by simp; omega) _
  have hs1 : w1.heap.size = X + 2 := by rw [← hw1, ← hwA, ← hX]; simp
  obtain ⟨q0, q1, q2⟩ : w1.cell? ⟨X, 0, none⟩ = some (.int .i64 tag) ∧ w1.cell? ⟨X, 1, none⟩ = some (.slice A1 m1 c1) ∧ w1.cell? ⟨X, 2, none⟩ = some (.slice A2 m2 c2) := by rw [bX1.cell, bX1.cell, bX1.cell]; exact ⟨rfl, rfl, rfl⟩
  have hRd := hb.turn hT1 (fun a h0 ha => ⟨(hPl _ (hbP a h0 ha)).1, by have := (hPl _ (hbP a h0 ha)).2; simpa using this⟩)
  have hRc := hk.keep0 hT1.size (fun a h0 ha => hT1.block _ (hPl _ (hkP a h0 ha)).1 (by have := (hPl _ (hkP a h0 ha)).2; simpa using this))
  have hKs : ∀ (j : Nat) (g : NF) (k : Nd), fs[j]? = some g → ks[j]? = some k → NdI P w1 g k := fun j g k hg hk => (hkids j g k hg hk).turn hT1 (fun b hb => ⟨(hPl b hb).1, by have := (hPl b hb).2; simpa using this⟩)
  have hkl : ks.length = m2 := by have := hk.1; omega
  have H1 := Lib.hid (And.intro b1 (And.intro hT1 (And.intro hRd (And.intro hRc (And.intro hKs (And.intro bX1 (And.intro bR1 (And.intro hs1 hX))))))))
  have HI := Lib.hid ih
  have HP := Lib.hid (And.intro hPl (And.intro hl hkP))
  have HD := Lib.hid (And.intro hdep hd17)
  have HN := Lib.hid hans
  have hXs := Lib.hid hX
  clear hdep hd17 hb hbP hk hkP hkids hPl hB b1 hT1 hRd hRc hKs ih bX1 bR1 hl bA bR hbA hkm hans
  simp only [NF.val]
  go_enter Try.func36, Try.ntmps36
  go_upto_region 1 with fail
  try rw [hwA]
  try rw [hX]
  go_upto_region 2 with fail
  try rw [hw1]
  clear hw1 hwA cl fl
  go_cut [7] (fun p wx => ∃ (N7 : Nat) (A5 : Option Addr) (n5 c5 : Nat), p = .pointer (some ⟨N7, 0, none⟩) ∧ Blk wx N7 25 #[.int .i64 tag, .slice A5 n5 c5, .slice none 0 0] ∧ Own wx w1.heap.size (.slice A5 n5 c5) (bs.take 200) ∧ (n5 = 0 → A5 = none ∧ c5 = 0) ∧ w1.heap.size ≤ N7 ∧ Below w1.heap.size w1 wx)
  case first =>
    refine region_old (by kernel_rfl) (fun wd hHeld hSz => ?_)
    have HSz := Lib.hid hSz
    clear hSz
    refine takeL (i := 0) (v := ?_) rfl (by kernel_rfl) (by kernel_rfl) (by kernel_rfl) (fun _ _ _ h => h) (Or.inl ⟨by rfl, ?_⟩) hHeld ?_
    rotate_left
    focus (intro wq hSw; clear hSw; go_simp; try with_reducible rfl)
    try simp only [Act.put, List.setIfInBounds_toArray, List.set_cons_zero, List.set_cons_succ]
    refine takeL (i := 1) (v := ?_) rfl (by kernel_rfl) (by kernel_rfl) (by kernel_rfl) (fun _ _ _ h => h) (Or.inl ⟨by rfl, ?_⟩) hHeld ?_
    rotate_left
    focus (intro wq hSw; have e0 := cell_old hSw q0; clear hSw; go_simp; try with_reducible rfl)
    try simp only [Act.put, List.setIfInBounds_toArray, List.set_cons_zero, List.set_cons_succ]
    refine takeL (i := 2) (v := ?_) rfl (by kernel_rfl) (by kernel_rfl) (by kernel_rfl) (fun _ _ _ h => h) (Or.inl ⟨by rfl, ?_⟩) hHeld ?_
    rotate_left
    focus (intro wq hSw; clear hSw; go_simp; try with_reducible rfl)
    try simp only [Act.put, List.setIfInBounds_toArray, List.set_cons_zero, List.set_cons_succ]
    refine takeL (i := 3) (v := ?_) rfl (by kernel_rfl) (by kernel_rfl) (by kernel_rfl) (fun _ _ _ h => h) (Or.inl ⟨by rfl, ?_⟩) hHeld ?_
    rotate_left
    focus (intro wq hSw; have e1 := cell_old hSw q1; clear hSw; go_simp; try with_reducible rfl)
    try simp only [Act.put, List.setIfInBounds_toArray, List.set_cons_zero, List.set_cons_succ]
    refine wpAnyH_ready (rs := [4, 7]) (by kernel_rfl) (by simp) ?_
    refine (consL rfl (fun K hK => ?_) (consL rfl (fun K hK => ?_) AllReadyH.nil))
    · go_simp
      refine (short_E A1 m1 c1 200 bs wd (H1.out.2.2.1.below hHeld) (by omega)).mono ?_
      rintro e w' ⟨rfl, rfl⟩
      refine hK.out _ _ hHeld (fun hHeld => ?_)
      clear hK K
      try simp only [Act.put, List.setIfInBounds_toArray, List.set_cons_zero, List.set_cons_succ]
      refine wpAnyH_ready (rs := [5, 7]) (by kernel_rfl) (by simp) ?_
      refine (consL rfl (fun K hK => ?_) (consL rfl (fun K hK => ?_) AllReadyH.nil))
      · refine step_app_E rfl (.const (.slice none 0 0)) (.tmp 18) rfl wd.heap.size (.slice none 0 0) [] rfl (Own.nil _ _) A1 (min m1 200) c1 (bs.take 200) rfl ((H1.out.2.2.1.below hHeld).short) (by simp; omega) (Nat.le_refl _) (fun v' w5 ho5 hg5 hn5 ha5 => ?_)
        obtain ⟨A5, n5, c5, rfl, _, hG⟩ := grew_of (l2 := bs.take 200) (Own.nil _ _) (Nat.le_refl _) ho5 hg5 hn5 ha5
        have hb5 : Below wd.heap.size wd w5 := hG.below
        have HO5 := Lib.hid (And.intro (hG.own.mono (base' := w1.heap.size) hHeld.size) (show n5 = 0 → A5 = none ∧ c5 = 0 from fun h0 => by have h9 := hG.own.len; rw [List.nil_append] at h9; have h8 : bs.take 200 = [] := List.eq_nil_of_length_eq_zero (by omega); have h7 := hn5.2 ⟨rfl, h8⟩; injection h7 with e1 e2 e3; exact ⟨e1, e3⟩))
        refine hK.out _ _ (Old.trans hHeld hb5) (fun hHeld => ?_)
        clear hK K ho5 hg5 hn5 ha5 hG hb5
        try simp only [Act.put, List.setIfInBounds_toArray, List.set_cons_zero, List.set_cons_succ]
        refine takeL (i := 6) (v := ?_) rfl (by kernel_rfl) (by kernel_rfl) (by kernel_rfl) (fun _ _ _ h => h) (Or.inl ⟨by rfl, ?_⟩) hHeld ?_
        rotate_left
        focus (intro wq hSw; clear hSw; go_simp; try with_reducible rfl)
        try simp only [Act.put, List.setIfInBounds_toArray, List.set_cons_zero, List.set_cons_succ]
        refine wpAnyH_ready (rs := [7]) (by kernel_rfl) (by simp) ?_
        refine (consL rfl (fun K hK => ?_) AllReadyH.nil)
        · go_simp
          obtain ⟨N7, hN7⟩ : ∃ N7, w5.heap.size = N7 := ⟨_, rfl⟩
          obtain ⟨w7, hw7⟩ : ∃ w7, w5.alloc (.cells #[.int .i64 0, .slice none 0 0, .slice none 0 0] 25) = w7 := ⟨_, rfl⟩
          have hB7 : Blk w7 N7 25 #[.int .i64 0, .slice none 0 0, .slice none 0 0] := by rw [← hw7, ← hN7]; exact Blk.new _ _ _
          have hb7 : Below w5.heap.size w5 w7 := by rw [← hw7]; exact (Below.refl _ _).alloc (Nat.le_refl _) _
          have HS7 := Lib.hid (show w1.heap.size ≤ N7 by rw [← hN7]; exact hHeld.size)
          have HB := Lib.hid hB7
          have HO5 := Lib.hid (And.intro (HO5.out.1.below hb7) HO5.out.2)
          try rw [hw7]
          try rw [hN7]
          refine hK.out _ _ (Old.trans hHeld hb7) (fun hHeld => ?_)
          clear hK K hw7 hN7 hB7 hb7
          try simp only [Act.put, List.setIfInBounds_toArray, List.set_cons_zero, List.set_cons_succ]
          refine wpAnyH_ready (rs := [8]) (by kernel_rfl) (by simp) ?_
          refine consL rfl (fun K hK => ?_) AllReadyH.nil
          rw [if_pos (by simp [Region.wanted])]
          refine op_store_arr 25 (.tmp 7) (.tmp 20) rfl N7 25 _ #[.int .i64 tag, .slice A5 n5 c5, .slice none 0 0] HB.out rfl rfl (by kernel_rfl) rfl (all_oneCell_toArray (cs := [.int .i64 tag, .slice A5 n5 c5, .slice none 0 0]) (List.all_eq_true.1 rfl)) (fun w9 hB9 hT9 => ?_)
          have hO9 : Old w1 w9 := below_turn hHeld hT9 (fun t ht => by simp at ht; have := HS7.out; omega) (by have := hHeld.size; omega)
          refine hK.out _ _ hO9 (fun hHeld => ?_)
          clear hK K
          try simp only [Act.put, List.setIfInBounds_toArray, List.set_cons_zero, List.set_cons_succ]
          refine wpAnyH_done (by kernel_rfl) ?_ _
          refine NoPanic.normal ?_
          try simp only [Exit.then]
          go_wp2_with fail
          go_meet
          exact ⟨N7, A5, n5, c5, rfl, hB9, HO5.out.1.turn hT9 (fun g hg hm => by simp at hm; subst hm; exact HO5.out.1.ne HB.out (by decide) hg), HO5.out.2, HS7.out, hHeld⟩
      · go_simp
        obtain ⟨N7, hN7⟩ : ∃ N7, wd.heap.size = N7 := ⟨_, rfl⟩
        obtain ⟨w7, hw7⟩ : ∃ w7, wd.alloc (.cells #[.int .i64 0, .slice none 0 0, .slice none 0 0] 25) = w7 := ⟨_, rfl⟩
        have hB7 : Blk w7 N7 25 #[.int .i64 0, .slice none 0 0, .slice none 0 0] := by rw [← hw7, ← hN7]; exact Blk.new _ _ _
        have hb7 : Below wd.heap.size wd w7 := by rw [← hw7]; exact (Below.refl _ _).alloc (Nat.le_refl _) _
        have HS7 := Lib.hid (show w1.heap.size ≤ N7 by rw [← hN7]; exact hHeld.size)
        have HB := Lib.hid hB7
        try rw [hw7]
        try rw [hN7]
        refine hK.out _ _ (Old.trans hHeld hb7) (fun hHeld => ?_)
        clear hK K hw7 hN7 hB7 hb7
        try simp only [Act.put, List.setIfInBounds_toArray, List.set_cons_zero, List.set_cons_succ]
        refine wpAnyH_ready (rs := [5]) (by kernel_rfl) (by simp) ?_
        refine (consL rfl (fun K hK => ?_) AllReadyH.nil)
        · refine step_app_E rfl (.const (.slice none 0 0)) (.tmp 18) rfl w7.heap.size (.slice none 0 0) [] rfl (Own.nil _ _) A1 (min m1 200) c1 (bs.take 200) rfl ((H1.out.2.2.1.below hHeld).short) (by simp; omega) (Nat.le_refl _) (fun v' w5 ho5 hg5 hn5 ha5 => ?_)
          obtain ⟨A5, n5, c5, rfl, _, hG⟩ := grew_of (l2 := bs.take 200) (Own.nil _ _) (Nat.le_refl _) ho5 hg5 hn5 ha5
          have hb5 : Below w7.heap.size w7 w5 := hG.below
          have HO5 := Lib.hid (And.intro (hG.own.mono (base' := w1.heap.size) hHeld.size) (show n5 = 0 → A5 = none ∧ c5 = 0 from fun h0 => by have h9 := hG.own.len; rw [List.nil_append] at h9; have h8 : bs.take 200 = [] := List.eq_nil_of_length_eq_zero (by omega); have h7 := hn5.2 ⟨rfl, h8⟩; injection h7 with e1 e2 e3; exact ⟨e1, e3⟩))
          have HB := Lib.hid (HB.out.below hb5)
          refine hK.out _ _ (Old.trans hHeld hb5) (fun hHeld => ?_)
          clear hK K ho5 hg5 hn5 ha5 hG hb5
          try simp only [Act.put, List.setIfInBounds_toArray, List.set_cons_zero, List.set_cons_succ]
          refine takeL (i := 6) (v := ?_) rfl (by kernel_rfl) (by kernel_rfl) (by kernel_rfl) (fun _ _ _ h => h) (Or.inl ⟨by rfl, ?_⟩) hHeld ?_
          rotate_left
          focus (intro wq hSw; clear hSw; go_simp; try with_reducible rfl)
          try simp only [Act.put, List.setIfInBounds_toArray, List.set_cons_zero, List.set_cons_succ]
          refine wpAnyH_ready (rs := [8]) (by kernel_rfl) (by simp) ?_
          refine consL rfl (fun K hK => ?_) AllReadyH.nil
          rw [if_pos (by simp [Region.wanted])]
          refine op_store_arr 25 (.tmp 7) (.tmp 20) rfl N7 25 _ #[.int .i64 tag, .slice A5 n5 c5, .slice none 0 0] HB.out rfl rfl (by kernel_rfl) rfl (all_oneCell_toArray (cs := [.int .i64 tag, .slice A5 n5 c5, .slice none 0 0]) (List.all_eq_true.1 rfl)) (fun w9 hB9 hT9 => ?_)
          have hO9 : Old w1 w9 := below_turn hHeld hT9 (fun t ht => by simp at ht; have := HS7.out; omega) (by have := hHeld.size; omega)
          refine hK.out _ _ hO9 (fun hHeld => ?_)
          clear hK K
          try simp only [Act.put, List.setIfInBounds_toArray, List.set_cons_zero, List.set_cons_succ]
          refine wpAnyH_done (by kernel_rfl) ?_ _
          refine NoPanic.normal ?_
          try simp only [Exit.then]
          go_wp2_with fail
          go_meet
          exact ⟨N7, A5, n5, c5, rfl, hB9, HO5.out.1.turn hT9 (fun g hg hm => by simp at hm; subst hm; exact HO5.out.1.ne HB.out (by decide) hg), HO5.out.2, HS7.out, hHeld⟩
    · go_simp
      obtain ⟨N7, hN7⟩ : ∃ N7, wd.heap.size = N7 := ⟨_, rfl⟩
      obtain ⟨w7, hw7⟩ : ∃ w7, wd.alloc (.cells #[.int .i64 0, .slice none 0 0, .slice none 0 0] 25) = w7 := ⟨_, rfl⟩
      have hB7 : Blk w7 N7 25 #[.int .i64 0, .slice none 0 0, .slice none 0 0] := by rw [← hw7, ← hN7]; exact Blk.new _ _ _
      have hb7 : Below wd.heap.size wd w7 := by rw [← hw7]; exact (Below.refl _ _).alloc (Nat.le_refl _) _
      have HS7 := Lib.hid (show w1.heap.size ≤ N7 by rw [← hN7]; exact hHeld.size)
      have HB := Lib.hid hB7
      try rw [hw7]
      try rw [hN7]
      refine hK.out _ _ (Old.trans hHeld hb7) (fun hHeld => ?_)
      clear hK K hw7 hN7 hB7 hb7
      try simp only [Act.put, List.setIfInBounds_toArray, List.set_cons_zero, List.set_cons_succ]
      refine wpAnyH_ready (rs := [4]) (by kernel_rfl) (by simp) ?_
      refine (consL rfl (fun K hK => ?_) AllReadyH.nil)
      · go_simp
        refine (short_E A1 m1 c1 200 bs w7 (H1.out.2.2.1.below hHeld) (by omega)).mono ?_
        rintro e w' ⟨rfl, rfl⟩
        refine hK.out _ _ hHeld (fun hHeld => ?_)
        clear hK K
        try simp only [Act.put, List.setIfInBounds_toArray, List.set_cons_zero, List.set_cons_succ]
        refine wpAnyH_ready (rs := [5]) (by kernel_rfl) (by simp) ?_
        refine (consL rfl (fun K hK => ?_) AllReadyH.nil)
        · refine step_app_E rfl (.const (.slice none 0 0)) (.tmp 18) rfl w7.heap.size (.slice none 0 0) [] rfl (Own.nil _ _) A1 (min m1 200) c1 (bs.take 200) rfl ((H1.out.2.2.1.below hHeld).short) (by simp; omega) (Nat.le_refl _) (fun v' w5 ho5 hg5 hn5 ha5 => ?_)
          obtain ⟨A5, n5, c5, rfl, _, hG⟩ := grew_of (l2 := bs.take 200) (Own.nil _ _) (Nat.le_refl _) ho5 hg5 hn5 ha5
          have hb5 : Below w7.heap.size w7 w5 := hG.below
          have HO5 := Lib.hid (And.intro (hG.own.mono (base' := w1.heap.size) hHeld.size) (show n5 = 0 → A5 = none ∧ c5 = 0 from fun h0 => by have h9 := hG.own.len; rw [List.nil_append] at h9; have h8 : bs.take 200 = [] := List.eq_nil_of_length_eq_zero (by omega); have h7 := hn5.2 ⟨rfl, h8⟩; injection h7 with e1 e2 e3; exact ⟨e1, e3⟩))
          have HB := Lib.hid (HB.out.below hb5)
          refine hK.out _ _ (Old.trans hHeld hb5) (fun hHeld => ?_)
          clear hK K ho5 hg5 hn5 ha5 hG hb5
          try simp only [Act.put, List.setIfInBounds_toArray, List.set_cons_zero, List.set_cons_succ]
          refine takeL (i := 6) (v := ?_) rfl (by kernel_rfl) (by kernel_rfl) (by kernel_rfl) (fun _ _ _ h => h) (Or.inl ⟨by rfl, ?_⟩) hHeld ?_
          rotate_left
          focus (intro wq hSw; clear hSw; go_simp; try with_reducible rfl)
          try simp only [Act.put, List.setIfInBounds_toArray, List.set_cons_zero, List.set_cons_succ]
          refine wpAnyH_ready (rs := [8]) (by kernel_rfl) (by simp) ?_
          refine consL rfl (fun K hK => ?_) AllReadyH.nil
          rw [if_pos (by simp [Region.wanted])]
          refine op_store_arr 25 (.tmp 7) (.tmp 20) rfl N7 25 _ #[.int .i64 tag, .slice A5 n5 c5, .slice none 0 0] HB.out rfl rfl (by kernel_rfl) rfl (all_oneCell_toArray (cs := [.int .i64 tag, .slice A5 n5 c5, .slice none 0 0]) (List.all_eq_true.1 rfl)) (fun w9 hB9 hT9 => ?_)
          have hO9 : Old w1 w9 := below_turn hHeld hT9 (fun t ht => by simp at ht; have := HS7.out; omega) (by have := hHeld.size; omega)
          refine hK.out _ _ hO9 (fun hHeld => ?_)
          clear hK K
          try simp only [Act.put, List.setIfInBounds_toArray, List.set_cons_zero, List.set_cons_succ]
          refine wpAnyH_done (by kernel_rfl) ?_ _
          refine NoPanic.normal ?_
          try simp only [Exit.then]
          go_wp2_with fail
          go_meet
          exact ⟨N7, A5, n5, c5, rfl, hB9, HO5.out.1.turn hT9 (fun g hg hm => by simp at hm; subst hm; exact HO5.out.1.ne HB.out (by decide) hg), HO5.out.2, HS7.out, hHeld⟩
  case rest =>
    obtain ⟨N7, A5, n5, c5, rfl, hB7, hO5, hz5, hN7, hbc⟩ := hcut
    obtain ⟨wG, hwG⟩ : ∃ wG, wG = wc := ⟨_, rfl⟩
    subst hwG
    have hTG : Turn [gl] w wG := H1.out.2.1.trans (Turn.of_below [gl] hbc) (fun x hx => .inl hx)
    have hG7 : N7 < wG.heap.size := hB7.lt
    have hXG : X + 2 ≤ N7 := by have := H1.out.2.2.2.2.2.2.2.1; omega
    obtain ⟨a0, ha0⟩ : ∃ a0, someAll d (left - 1) ks = a0 := ⟨_, rfl⟩
    have hans := HN.out
    rw [ha0] at hans
    have hK0 : SI gl N7 d (left - 1) tag a0 wG wG (left - 1) [] ks [] A5 n5 c5 none 0 0 :=
      ⟨by omega, by omega, by rw [ha0]; simp, H1.out.1.below hbc, hB7, OwnE.nil _ _, rfl, by simp, by simp; omega, Turn.refl _ _⟩
    have HG := Lib.hid (And.intro hO5 (And.intro hz5 (And.intro hTG (And.intro hbc (And.intro hans hK0)))))
    clear hB7 hO5 hz5 hTG hbc hans hK0 ha0
    go_wp2_with fail
    go_loopw [8] (fun kk wr => ∃ (j : Nat) (lf : Int) (kl : List Nd) (fl : List NF) (Ak : Option Addr) (mk ck : Nat), j ≤ m2 ∧ kk = .int .i64 (j : Int) ∧ SI gl N7 d (left - 1) tag a0 wG wr lf kl (ks.drop j) fl A5 n5 c5 Ak mk ck) (fun kk _ => m2 - (intOf kk).toNat)
    case atStart => exact ⟨0, left - 1, [], [], none, 0, 0, by omega, rfl, by rw [List.drop_zero]; exact HG.out.2.2.2.2.2⟩
    case round =>
      obtain ⟨j, lf, kl, fl, Ak, mk, ck, hj, rfl, hK⟩ := hrel
      have HK := Lib.hid hK
      clear hK
      have hlf0 := HK.out.low
      have hlf1 := HK.out.high
      have hsr := HK.out.turn.size
      have bX := (H1.out.2.2.2.2.2.1.below HG.out.2.2.2.1).turn HK.out.turn (by simp; omega)
      have u2 := bX.cell 2
      have cg := HK.out.bG.cell 0
      simp only [List.getElem?_toArray, List.getElem?_cons_succ, List.getElem?_cons_zero] at u2 cg
      have z0 := HK.out.bN.cell 0
      have z1 := HK.out.bN.cell 1
      have z2 := HK.out.bN.cell 2
      simp only [List.getElem?_toArray, List.getElem?_cons_succ, List.getElem?_cons_zero] at z0 z1 z2
      clear bX
      by_cases hlt : j < m2
      · have hi : (j : Int) < m2 := by omega
        have hd : decide (j < m2) = true := decide_eq_true hlt
        by_cases hl0 : 0 < lf
        · have hl0d : decide (0 < lf) = true := decide_eq_true hl0
          by_cases hd0 : 0 < d
          · have hdp : depth < 18 := by have := HD.out.1; omega
            have hdpd : decide (depth < 18) = true := decide_eq_true hdp
            have hdp0 : 0 ≤ depth := by have := HD.out.1; have := HD.out.2; omega
            obtain ⟨k, hk⟩ : ∃ k, ks[j]? = some k := ⟨_, List.getElem?_eq_getElem (by omega)⟩
            obtain ⟨fk, hfk⟩ : ∃ fk, fs[j]? = some fk := ⟨_, List.getElem?_eq_getElem (by have := HP.out.2.1; omega)⟩
            have hTw : ∀ b, P b → wr.heap[b]? = w1.heap[b]? := fun b hb => by
              obtain ⟨p1, p2⟩ := HP.out.1 b hb
              have h12 := H1.out.2.1.size
              exact (HK.out.turn.block b (by have := HG.out.2.2.1.size; omega) (by simp; omega)).trans (HG.out.2.2.2.1.block b (by omega))
            have hs1r : w1.heap.size ≤ wr.heap.size := by have := HG.out.2.2.2.1.size; omega
            have hm20 : 0 < m2 := by omega
            have hRr := H1.out.2.2.2.1.keep0 hs1r (fun ad _ had => hTw ad.block (HP.out.2.2 ad hm20 had))
            obtain ⟨ga, oa, hAa, v0, v1, v2⟩ := node_at hRr hfk
            have hgP : P ga := HP.out.2.2 _ hm20 hAa
            clear hm20
            have hNk : NdI P wr fk k := (H1.out.2.2.2.2.1 j fk k hfk hk).keep hs1r (fun b hb => hTw b hb)
            obtain ⟨t1, B1, n1, p1, B2, n2, p2⟩ := fk
            simp only at v0 v1 v2
            have hst := someAll_step (left := lf) hk ⟨hl0, hd0⟩
            have hsl := someN_left k (d - 1) lf (by omega)
            obtain ⟨k', lf', hkl'⟩ : ∃ k' lf', k.someN (d - 1) lf = (k', lf') := ⟨_, _, rfl⟩
            rw [hkl'] at hst hsl
            simp only at hst hsl
            obtain ⟨hga1, hga2⟩ := HP.out.1 ga hgP
            have hwG1 := HG.out.2.2.1.size
            have hgaN : ga ≠ N7 := by omega
            have hXgl : X ≠ gl := by omega
            have hXN : X ≠ N7 := by omega
            have HR := Lib.hid (And.intro hNk (And.intro hst (And.intro hsl (And.intro hkl' (List.mem_of_getElem? hk)))))
            have hwd1 : IntKind.i64.wrap (depth + 1) = depth + 1 := IntWalk.i64_in _ (by have := HD.out.1; omega)
            have hj0 : ¬ ((j : Int) < 0) := by omega
            subst hAa
            clear hNk hst hsl hkl' hk hfk hRr hgP
            go_wp2_with fail
            refine region_word2 (Keeps gl N7 wG.heap.size wr) (fun wd h => Keeps.of_old hsr h) (by kernel_rfl) (fun wd hOld hSz hHeld => ?_)
            have HO := Lib.hid (And.intro hOld hSz)
            clear hOld hSz
            have hcall := HI.out k HR.out.2.2.2.2 ⟨t1, B1, n1, p1, B2, n2, p2⟩ (d - 1) (depth + 1) lf wd (HR.out.1.bel HO.out.1 (fun b hb => by have := (HP.out.1 b hb).1; omega)) (fun b hb => ⟨by have := (HP.out.1 b hb).1; have := HO.out.2; omega, (HP.out.1 b hb).2⟩) (by omega) (by omega) (by have := HD.out.2; omega) (by have := HD.out.1; omega) (HK.out.bG.below HO.out.1)
            rw [HR.out.2.2.2.1] at hcall
            simp only [NF.val] at hcall
            have HBN := Lib.hid (HK.out.bN.below HO.out.1)
            have hGX : X < wG.heap.size := by omega
            have hGa : ga < wG.heap.size := by omega
            clear z0 z1 z2 cg
            refine takeL (i := 0) (v := ?_) rfl (by kernel_rfl) (by kernel_rfl) (by kernel_rfl) (fun _ _ _ h => h) (Or.inl ⟨by rfl, ?_⟩) hHeld ?_
            rotate_left
            focus (intro wq hSw; clear hSw; go_simp; try with_reducible rfl)
            try simp only [Act.put, List.setIfInBounds_toArray, List.set_cons_zero, List.set_cons_succ]
            refine takeL (i := 2) (v := ?_) rfl (by kernel_rfl) (by kernel_rfl) (by kernel_rfl) (fun _ _ _ h => h) (Or.inl ⟨by rfl, ?_⟩) hHeld ?_
            rotate_left
            focus (intro wq hSw; clear hSw; go_simp; try with_reducible rfl)
            try simp only [Act.put, List.setIfInBounds_toArray, List.set_cons_zero, List.set_cons_succ]
            refine takeL (i := 3) (v := ?_) rfl (by kernel_rfl) (by kernel_rfl) (by kernel_rfl) (fun _ _ _ h => h) (Or.inl ⟨by rfl, ?_⟩) hHeld ?_
            rotate_left
            focus (intro wq hSw; have eu2 := hSw.cell hGX hXgl hXN u2; clear hSw; go_simp; try with_reducible rfl)
            try simp only [Act.put, List.setIfInBounds_toArray, List.set_cons_zero, List.set_cons_succ]
            refine takeL (i := 4) (v := ?_) rfl (by kernel_rfl) (by kernel_rfl) (by kernel_rfl) (fun _ _ _ h => h) (Or.inl ⟨by rfl, ?_⟩) hHeld ?_
            rotate_left
            focus (intro wq hSw; clear hSw; go_simp; try with_reducible rfl)
            try simp only [Act.put, List.setIfInBounds_toArray, List.set_cons_zero, List.set_cons_succ]
            refine takeL (i := 5) (v := ?_) rfl (by kernel_rfl) (by kernel_rfl) (by kernel_rfl) (fun _ _ _ h => h) (Or.inl ⟨by rfl, ?_⟩) hHeld ?_
            rotate_left
            focus (intro wq hSw; clear hSw; go_simp; try with_reducible rfl)
            try simp only [Act.put, List.setIfInBounds_toArray, List.set_cons_zero, List.set_cons_succ]
            refine takeL (i := 6) (v := ?_) rfl (by kernel_rfl) (by kernel_rfl) (by kernel_rfl) (fun _ _ _ h => h) (Or.inl ⟨by rfl, ?_⟩) hHeld ?_
            rotate_left
            focus (intro wq hSw; have ev0 := hSw.cell hGa hga2 hgaN v0; have ev1 := hSw.cell hGa hga2 hgaN v1; have ev2 := hSw.cell hGa hga2 hgaN v2; clear hSw; go_simp; try with_reducible rfl)
            try simp only [Act.put, List.setIfInBounds_toArray, List.set_cons_zero, List.set_cons_succ]
            refine takeL (i := 7) (v := ?_) rfl (by kernel_rfl) (by kernel_rfl) (by kernel_rfl) (fun _ _ _ h => h) (Or.inl ⟨by rfl, ?_⟩) hHeld ?_
            rotate_left
            focus (intro wq hSw; clear hSw; go_simp; try with_reducible rfl)
            try simp only [Act.put, List.setIfInBounds_toArray, List.set_cons_zero, List.set_cons_succ]
            refine takeL (i := 8) (v := ?_) rfl (by kernel_rfl) (by kernel_rfl) (by kernel_rfl) (fun _ _ _ h => h) (Or.inl ⟨by rfl, ?_⟩) hHeld ?_
            rotate_left
            focus (intro wq hSw; clear hSw; go_simp; try with_reducible rfl)
            try simp only [Act.put, List.setIfInBounds_toArray, List.set_cons_zero, List.set_cons_succ]
            refine takeL (i := 9) (v := ?_) rfl (by kernel_rfl) (by kernel_rfl) (by kernel_rfl) (fun _ _ _ h => h) (Or.inl ⟨by rfl, ?_⟩) hHeld ?_
            rotate_left
            focus (intro wq hSw; clear hSw; go_simp; try with_reducible rfl)
            try simp only [Act.put, List.setIfInBounds_toArray, List.set_cons_zero, List.set_cons_succ]
            refine wpAnyH_ready (rs := [1, 10]) (by kernel_rfl) (by simp) ?_
            refine (consL rfl (fun K hK => ?_) (consL rfl (fun K hK => ?_) AllReadyH.nil))
            · have e2 := HBN.out.cell 2
              simp only [List.getElem?_toArray, List.getElem?_cons_succ, List.getElem?_cons_zero] at e2
              go_simp
              refine hK.out _ _ hHeld (fun hHeld => ?_)
              clear hK K e2
              try simp only [Act.put, List.setIfInBounds_toArray, List.set_cons_zero, List.set_cons_succ]
              refine wpAnyH_ready (rs := [10]) (by kernel_rfl) (by simp) ?_
              refine (consL rfl (fun K hK => ?_) AllReadyH.nil)
              · go_simp
                refine hcall.mono ?_
                rintro e wc2 ⟨⟨tg, D1, r1, s1, D2, r2, s2⟩, rfl, hNk, hBg, hTk⟩
                have hH2 : Keeps gl N7 wG.heap.size wr wc2 := (Keeps.of_old hsr HO.out.1).trans (Keeps.of_turn (by have := HO.out.2; omega) hTk (fun x hx => by simp at hx; exact .inl hx))
                have HC := Lib.hid (And.intro hNk (And.intro hBg hTk))
                have HBC := Lib.hid (HBN.out.turn hTk (by simp; omega))
                clear hNk hBg hTk
                simp only [NF.val]
                refine hK.out _ _ hH2 (fun hHeld => ?_)
                clear hK K hH2
                try simp only [Act.put, List.setIfInBounds_toArray, List.set_cons_zero, List.set_cons_succ]
                refine wpAnyH_ready (rs := [11]) (by kernel_rfl) (by simp) ?_
                refine (consL rfl (fun K hK => ?_) AllReadyH.nil)
                · go_simp
                  have hH3 : Keeps gl N7 wG.heap.size wr (wc2.alloc (.cells #[.int .i64 tg, .slice D1 r1 s1, .slice D2 r2 s2] 25)) := hHeld.trans (Keeps.of_old (by have := hHeld.2.2.2.1; omega) (Old.alloc (Old.refl _) _))
                  have HW := Lib.hid (And.intro (show OwnE Try.eN (wc2.alloc (.cells #[.int .i64 tg, .slice D1 r1 s1, .slice D2 r2 s2] 25)) wG.heap.size (.slice Ak mk ck) fl from ((HK.out.own.below HO.out.1).turn HC.out.2.2 (fun g hg => by have := (HK.out.own.lt hg).1; simp; omega)).below ((Below.refl _ _).alloc (Nat.le_refl _) _)) (And.intro (show RdC Try.eN (wc2.alloc (.cells #[.int .i64 tg, .slice D1 r1 s1, .slice D2 r2 s2] 25)) (some ⟨wc2.heap.size, 0, none⟩) 1 [⟨tg, D1, r1, s1, D2, r2, s2⟩] from Blk.rdC Try.eN (Blk.new _ _ _) rfl) (And.intro (HBC.out.alloc (.cells #[.int .i64 tg, .slice D1 r1 s1, .slice D2 r2 s2] 25)) (show wG.heap.size ≤ (wc2.alloc (.cells #[.int .i64 tg, .slice D1 r1 s1, .slice D2 r2 s2] 25)).heap.size by have := hHeld.2.2.2.1; simp; omega))))
                  refine hK.out _ _ hH3 (fun hHeld => ?_)
                  clear hK K hH3
                  try simp only [Act.put, List.setIfInBounds_toArray, List.set_cons_zero, List.set_cons_succ]
                  refine wpAnyH_ready (rs := [12]) (by kernel_rfl) (by simp) ?_
                  refine consL rfl (fun K hK => ?_) AllReadyH.nil
                  refine step_appE Try.eN (.tmp 39) (.tmp 49) wG.heap.size (.slice Ak mk ck) fl HW.out.1 (by have := HW.out.2.2.2; omega) (some ⟨wc2.heap.size, 0, none⟩) 1 1 [⟨tg, D1, r1, s1, D2, r2, s2⟩] HW.out.2.1 (fun h => by cases h) (by have := HK.out.few; have := HK.out.lens; simp; omega) rfl rfl rfl rfl (fun A6 n6 c6 w12 hG => ?_)
                  have bN12 : Blk w12 N7 25 #[.int .i64 tag, .slice A5 n5 c5, .slice Ak mk ck] := HW.out.2.2.1.keep (hG.below.block N7 (by omega))
                  have hH12 : Keeps gl N7 wG.heap.size wr w12 := hHeld.trans (Keeps.of_below hG.below)
                  have H12 := Lib.hid (And.intro hG bN12)
                  refine hK.out _ _ hH12 (fun hHeld => ?_)
                  clear hK K hG bN12 hH12
                  try simp only [Act.put, List.setIfInBounds_toArray, List.set_cons_zero, List.set_cons_succ]
                  have e2 := H12.out.2.cell 2
                  simp only [List.getElem?_toArray, List.getElem?_cons_succ, List.getElem?_cons_zero] at e2
                  have f2 := H12.out.2.frozen 2
                  refine takeL (i := 13) (v := ?_) rfl (by kernel_rfl) (by kernel_rfl) (by kernel_rfl) (fun _ _ _ h => h) (Or.inl ⟨by rfl, ?_⟩) hHeld ?_
                  rotate_left
                  focus (intro wq hSw; clear hSw; go_simp; try with_reducible rfl)
                  try simp only [Act.put, List.setIfInBounds_toArray, List.set_cons_zero, List.set_cons_succ]
                  refine wpAnyH_ready (rs := [14]) (by kernel_rfl) (by simp) ?_
                  refine consL rfl (fun K hK => ?_) AllReadyH.nil
                  go_simp
                  refine hK.out _ _ (hHeld.trans (Keeps.of_turn (by have := hHeld.2.2.2.1; omega) ((Turn.refl [N7] w12).setCell (.inl (by simp)) _) (fun x hx => by simp at hx; exact .inr hx))) (fun hHeld => ?_)
                  clear hK K e2 f2
                  try simp only [Act.put, List.setIfInBounds_toArray, List.set_cons_zero, List.set_cons_succ]
                  refine wpAnyH_done (by kernel_rfl) ?_ _
                  refine NoPanic.normal ?_
                  try simp only [Exit.then]
                  go_wp2_with fail
                  go_roundw
                  case measure => simp [intOf]; omega
                  have hsd := HO.out.2
                  have hs11 : (wc2.alloc (.cells #[.int .i64 tg, .slice D1 r1 s1, .slice D2 r2 s2] 25)).heap.size = wc2.heap.size + 1 := by simp
                  have hT13 : Turn [N7] w12 (w12.setCell ⟨N7, 2, none⟩ (.slice A6 n6 c6)) := (Turn.refl [N7] w12).setCell (.inl (by simp)) _
                  have hdc := HC.out.2.2.size
                  have h12s := H12.out.1.below.size
                  have h13s := hT13.size
                  have hkeep : ∀ b, b < wc2.heap.size → b ≠ N7 → (Value.slice Ak mk ck).ownBlock ≠ some b → (w12.setCell ⟨N7, 2, none⟩ (.slice A6 n6 c6)).heap[b]? = wc2.heap[b]? := fun b g1 g2 g3 =>
                    (hT13.block b (by omega) (by simpa using g2)).trans ((H12.out.1.grown.block b (by omega) (fun e => g3 e.symm)).trans (Below.heap_alloc wc2 _ b g1))
                  have hown2 : ∀ b, b < wc2.heap.size → (Value.slice Ak mk ck).ownBlock ≠ some b → (Value.slice A6 n6 c6).ownBlock ≠ some b := fun b g1 g2 e => by
                    rcases H12.out.1.at_ with g3 | g3
                    · rw [g3] at e; exact g2 e
                    · rw [g3] at e; injection e with e; omega
                  have hrow : ∀ b, wr.heap.size ≤ b → (Value.slice Ak mk ck).ownBlock ≠ some b := fun b hb e => by have := (HK.out.own.lt e).2; omega
                  have hrowG : ∀ b, b < wG.heap.size → (Value.slice Ak mk ck).ownBlock ≠ some b := fun b hb e => by have := (HK.out.own.lt e).1; omega
                  have hgl7 : gl ≠ N7 := by omega
                  have hsl := HR.out.2.2.1
                  have hfew := HK.out.few
                  refine ⟨j + 1, lf', kl ++ [k'], fl ++ [⟨tg, D1, r1, s1, D2, r2, s2⟩], A6, n6, c6, by omega, by simp, ?_⟩
                  refine ⟨hsl.1, by omega, ?_, HC.out.2.1.keep (hkeep gl HC.out.2.1.lt hgl7 (hrowG gl (by omega))), ?_, H12.out.1.own.turn hT13 (fun g hg => by have := (H12.out.1.own.lt hg).1; simp; omega), by simp [HK.out.lens], ?_, by simp; omega, Keeps.turn HK.out.turn hHeld⟩
                  · rw [HK.out.ans, HR.out.2.1]; simp
                  · have := H12.out.2.set_ 2 (.slice A6 n6 c6)
                    simpa using this
                  · refine list_snoc HK.out.lens (fun j g k' hg hk => ?_) ?_
                    · refine ((HK.out.kids j g k' hg hk).keep (by omega) (fun b hb => ?_)).mono (fun b hb => ⟨⟨hb.1.1, by have := hb.1.2; omega⟩, hown2 b (by have := hb.1.2; omega) hb.2⟩) (fun _ h => h)
                      exact (hkeep b (by have := hb.1.2; omega) (by have := hb.1.1; omega) hb.2).trans ((HC.out.2.2.block b (by have := hb.1.2; omega) (by have := hb.1.1; simp; omega)).trans (HO.out.1.block b hb.1.2))
                    · refine (HC.out.1.keep (by omega) (fun b hb => hkeep b hb.2 (by have := hb.1; omega) (hrow b (by have := hb.1; omega)))).mono (fun b hb => ⟨⟨by have := hb.1; omega, by have := hb.2; omega⟩, hown2 b hb.2 (hrow b (by have := hb.1; omega))⟩) (fun _ h => h)
            · go_simp
              refine hcall.mono ?_
              rintro e wc2 ⟨⟨tg, D1, r1, s1, D2, r2, s2⟩, rfl, hNk, hBg, hTk⟩
              have hH2 : Keeps gl N7 wG.heap.size wr wc2 := (Keeps.of_old hsr HO.out.1).trans (Keeps.of_turn (by have := HO.out.2; omega) hTk (fun x hx => by simp at hx; exact .inl hx))
              have HC := Lib.hid (And.intro hNk (And.intro hBg hTk))
              have HBC := Lib.hid (HBN.out.turn hTk (by simp; omega))
              clear hNk hBg hTk
              simp only [NF.val]
              refine hK.out _ _ hH2 (fun hHeld => ?_)
              clear hK K hH2
              try simp only [Act.put, List.setIfInBounds_toArray, List.set_cons_zero, List.set_cons_succ]
              refine wpAnyH_ready (rs := [1, 11]) (by kernel_rfl) (by simp) ?_
              refine (consL rfl (fun K hK => ?_) (consL rfl (fun K hK => ?_) AllReadyH.nil))
              · have e2 := HBC.out.cell 2
                simp only [List.getElem?_toArray, List.getElem?_cons_succ, List.getElem?_cons_zero] at e2
                go_simp
                refine hK.out _ _ hHeld (fun hHeld => ?_)
                clear hK K e2
                try simp only [Act.put, List.setIfInBounds_toArray, List.set_cons_zero, List.set_cons_succ]
                refine wpAnyH_ready (rs := [11]) (by kernel_rfl) (by simp) ?_
                refine (consL rfl (fun K hK => ?_) AllReadyH.nil)
                · go_simp
                  have hH3 : Keeps gl N7 wG.heap.size wr (wc2.alloc (.cells #[.int .i64 tg, .slice D1 r1 s1, .slice D2 r2 s2] 25)) := hHeld.trans (Keeps.of_old (by have := hHeld.2.2.2.1; omega) (Old.alloc (Old.refl _) _))
                  have HW := Lib.hid (And.intro (show OwnE Try.eN (wc2.alloc (.cells #[.int .i64 tg, .slice D1 r1 s1, .slice D2 r2 s2] 25)) wG.heap.size (.slice Ak mk ck) fl from ((HK.out.own.below HO.out.1).turn HC.out.2.2 (fun g hg => by have := (HK.out.own.lt hg).1; simp; omega)).below ((Below.refl _ _).alloc (Nat.le_refl _) _)) (And.intro (show RdC Try.eN (wc2.alloc (.cells #[.int .i64 tg, .slice D1 r1 s1, .slice D2 r2 s2] 25)) (some ⟨wc2.heap.size, 0, none⟩) 1 [⟨tg, D1, r1, s1, D2, r2, s2⟩] from Blk.rdC Try.eN (Blk.new _ _ _) rfl) (And.intro (HBC.out.alloc (.cells #[.int .i64 tg, .slice D1 r1 s1, .slice D2 r2 s2] 25)) (show wG.heap.size ≤ (wc2.alloc (.cells #[.int .i64 tg, .slice D1 r1 s1, .slice D2 r2 s2] 25)).heap.size by have := hHeld.2.2.2.1; simp; omega))))
                  refine hK.out _ _ hH3 (fun hHeld => ?_)
                  clear hK K hH3
                  try simp only [Act.put, List.setIfInBounds_toArray, List.set_cons_zero, List.set_cons_succ]
                  refine wpAnyH_ready (rs := [12]) (by kernel_rfl) (by simp) ?_
                  refine consL rfl (fun K hK => ?_) AllReadyH.nil
                  refine step_appE Try.eN (.tmp 39) (.tmp 49) wG.heap.size (.slice Ak mk ck) fl HW.out.1 (by have := HW.out.2.2.2; omega) (some ⟨wc2.heap.size, 0, none⟩) 1 1 [⟨tg, D1, r1, s1, D2, r2, s2⟩] HW.out.2.1 (fun h => by cases h) (by have := HK.out.few; have := HK.out.lens; simp; omega) rfl rfl rfl rfl (fun A6 n6 c6 w12 hG => ?_)
                  have bN12 : Blk w12 N7 25 #[.int .i64 tag, .slice A5 n5 c5, .slice Ak mk ck] := HW.out.2.2.1.keep (hG.below.block N7 (by omega))
                  have hH12 : Keeps gl N7 wG.heap.size wr w12 := hHeld.trans (Keeps.of_below hG.below)
                  have H12 := Lib.hid (And.intro hG bN12)
                  refine hK.out _ _ hH12 (fun hHeld => ?_)
                  clear hK K hG bN12 hH12
                  try simp only [Act.put, List.setIfInBounds_toArray, List.set_cons_zero, List.set_cons_succ]
                  have e2 := H12.out.2.cell 2
                  simp only [List.getElem?_toArray, List.getElem?_cons_succ, List.getElem?_cons_zero] at e2
                  have f2 := H12.out.2.frozen 2
                  refine takeL (i := 13) (v := ?_) rfl (by kernel_rfl) (by kernel_rfl) (by kernel_rfl) (fun _ _ _ h => h) (Or.inl ⟨by rfl, ?_⟩) hHeld ?_
                  rotate_left
                  focus (intro wq hSw; clear hSw; go_simp; try with_reducible rfl)
                  try simp only [Act.put, List.setIfInBounds_toArray, List.set_cons_zero, List.set_cons_succ]
                  refine wpAnyH_ready (rs := [14]) (by kernel_rfl) (by simp) ?_
                  refine consL rfl (fun K hK => ?_) AllReadyH.nil
                  go_simp
                  refine hK.out _ _ (hHeld.trans (Keeps.of_turn (by have := hHeld.2.2.2.1; omega) ((Turn.refl [N7] w12).setCell (.inl (by simp)) _) (fun x hx => by simp at hx; exact .inr hx))) (fun hHeld => ?_)
                  clear hK K e2 f2
                  try simp only [Act.put, List.setIfInBounds_toArray, List.set_cons_zero, List.set_cons_succ]
                  refine wpAnyH_done (by kernel_rfl) ?_ _
                  refine NoPanic.normal ?_
                  try simp only [Exit.then]
                  go_wp2_with fail
                  go_roundw
                  case measure => simp [intOf]; omega
                  have hsd := HO.out.2
                  have hs11 : (wc2.alloc (.cells #[.int .i64 tg, .slice D1 r1 s1, .slice D2 r2 s2] 25)).heap.size = wc2.heap.size + 1 := by simp
                  have hT13 : Turn [N7] w12 (w12.setCell ⟨N7, 2, none⟩ (.slice A6 n6 c6)) := (Turn.refl [N7] w12).setCell (.inl (by simp)) _
                  have hdc := HC.out.2.2.size
                  have h12s := H12.out.1.below.size
                  have h13s := hT13.size
                  have hkeep : ∀ b, b < wc2.heap.size → b ≠ N7 → (Value.slice Ak mk ck).ownBlock ≠ some b → (w12.setCell ⟨N7, 2, none⟩ (.slice A6 n6 c6)).heap[b]? = wc2.heap[b]? := fun b g1 g2 g3 =>
                    (hT13.block b (by omega) (by simpa using g2)).trans ((H12.out.1.grown.block b (by omega) (fun e => g3 e.symm)).trans (Below.heap_alloc wc2 _ b g1))
                  have hown2 : ∀ b, b < wc2.heap.size → (Value.slice Ak mk ck).ownBlock ≠ some b → (Value.slice A6 n6 c6).ownBlock ≠ some b := fun b g1 g2 e => by
                    rcases H12.out.1.at_ with g3 | g3
                    · rw [g3] at e; exact g2 e
                    · rw [g3] at e; injection e with e; omega
                  have hrow : ∀ b, wr.heap.size ≤ b → (Value.slice Ak mk ck).ownBlock ≠ some b := fun b hb e => by have := (HK.out.own.lt e).2; omega
                  have hrowG : ∀ b, b < wG.heap.size → (Value.slice Ak mk ck).ownBlock ≠ some b := fun b hb e => by have := (HK.out.own.lt e).1; omega
                  have hgl7 : gl ≠ N7 := by omega
                  have hsl := HR.out.2.2.1
                  have hfew := HK.out.few
                  refine ⟨j + 1, lf', kl ++ [k'], fl ++ [⟨tg, D1, r1, s1, D2, r2, s2⟩], A6, n6, c6, by omega, by simp, ?_⟩
                  refine ⟨hsl.1, by omega, ?_, HC.out.2.1.keep (hkeep gl HC.out.2.1.lt hgl7 (hrowG gl (by omega))), ?_, H12.out.1.own.turn hT13 (fun g hg => by have := (H12.out.1.own.lt hg).1; simp; omega), by simp [HK.out.lens], ?_, by simp; omega, Keeps.turn HK.out.turn hHeld⟩
                  · rw [HK.out.ans, HR.out.2.1]; simp
                  · have := H12.out.2.set_ 2 (.slice A6 n6 c6)
                    simpa using this
                  · refine list_snoc HK.out.lens (fun j g k' hg hk => ?_) ?_
                    · refine ((HK.out.kids j g k' hg hk).keep (by omega) (fun b hb => ?_)).mono (fun b hb => ⟨⟨hb.1.1, by have := hb.1.2; omega⟩, hown2 b (by have := hb.1.2; omega) hb.2⟩) (fun _ h => h)
                      exact (hkeep b (by have := hb.1.2; omega) (by have := hb.1.1; omega) hb.2).trans ((HC.out.2.2.block b (by have := hb.1.2; omega) (by have := hb.1.1; simp; omega)).trans (HO.out.1.block b hb.1.2))
                    · refine (HC.out.1.keep (by omega) (fun b hb => hkeep b hb.2 (by have := hb.1; omega) (hrow b (by have := hb.1; omega)))).mono (fun b hb => ⟨⟨by have := hb.1; omega, by have := hb.2; omega⟩, hown2 b hb.2 (hrow b (by have := hb.1; omega))⟩) (fun _ h => h)
              · go_simp
                have hH3 : Keeps gl N7 wG.heap.size wr (wc2.alloc (.cells #[.int .i64 tg, .slice D1 r1 s1, .slice D2 r2 s2] 25)) := hHeld.trans (Keeps.of_old (by have := hHeld.2.2.2.1; omega) (Old.alloc (Old.refl _) _))
                have HW := Lib.hid (And.intro (show OwnE Try.eN (wc2.alloc (.cells #[.int .i64 tg, .slice D1 r1 s1, .slice D2 r2 s2] 25)) wG.heap.size (.slice Ak mk ck) fl from ((HK.out.own.below HO.out.1).turn HC.out.2.2 (fun g hg => by have := (HK.out.own.lt hg).1; simp; omega)).below ((Below.refl _ _).alloc (Nat.le_refl _) _)) (And.intro (show RdC Try.eN (wc2.alloc (.cells #[.int .i64 tg, .slice D1 r1 s1, .slice D2 r2 s2] 25)) (some ⟨wc2.heap.size, 0, none⟩) 1 [⟨tg, D1, r1, s1, D2, r2, s2⟩] from Blk.rdC Try.eN (Blk.new _ _ _) rfl) (And.intro (HBC.out.alloc (.cells #[.int .i64 tg, .slice D1 r1 s1, .slice D2 r2 s2] 25)) (show wG.heap.size ≤ (wc2.alloc (.cells #[.int .i64 tg, .slice D1 r1 s1, .slice D2 r2 s2] 25)).heap.size by have := hHeld.2.2.2.1; simp; omega))))
                refine hK.out _ _ hH3 (fun hHeld => ?_)
                clear hK K hH3
                try simp only [Act.put, List.setIfInBounds_toArray, List.set_cons_zero, List.set_cons_succ]
                refine wpAnyH_ready (rs := [1]) (by kernel_rfl) (by simp) ?_
                refine (consL rfl (fun K hK => ?_) AllReadyH.nil)
                · have e2 := HW.out.2.2.1.cell 2
                  simp only [List.getElem?_toArray, List.getElem?_cons_succ, List.getElem?_cons_zero] at e2
                  go_simp
                  refine hK.out _ _ hHeld (fun hHeld => ?_)
                  clear hK K e2
                  try simp only [Act.put, List.setIfInBounds_toArray, List.set_cons_zero, List.set_cons_succ]
                  refine wpAnyH_ready (rs := [12]) (by kernel_rfl) (by simp) ?_
                  refine consL rfl (fun K hK => ?_) AllReadyH.nil
                  refine step_appE Try.eN (.tmp 39) (.tmp 49) wG.heap.size (.slice Ak mk ck) fl HW.out.1 (by have := HW.out.2.2.2; omega) (some ⟨wc2.heap.size, 0, none⟩) 1 1 [⟨tg, D1, r1, s1, D2, r2, s2⟩] HW.out.2.1 (fun h => by cases h) (by have := HK.out.few; have := HK.out.lens; simp; omega) rfl rfl rfl rfl (fun A6 n6 c6 w12 hG => ?_)
                  have bN12 : Blk w12 N7 25 #[.int .i64 tag, .slice A5 n5 c5, .slice Ak mk ck] := HW.out.2.2.1.keep (hG.below.block N7 (by omega))
                  have hH12 : Keeps gl N7 wG.heap.size wr w12 := hHeld.trans (Keeps.of_below hG.below)
                  have H12 := Lib.hid (And.intro hG bN12)
                  refine hK.out _ _ hH12 (fun hHeld => ?_)
                  clear hK K hG bN12 hH12
                  try simp only [Act.put, List.setIfInBounds_toArray, List.set_cons_zero, List.set_cons_succ]
                  have e2 := H12.out.2.cell 2
                  simp only [List.getElem?_toArray, List.getElem?_cons_succ, List.getElem?_cons_zero] at e2
                  have f2 := H12.out.2.frozen 2
                  refine takeL (i := 13) (v := ?_) rfl (by kernel_rfl) (by kernel_rfl) (by kernel_rfl) (fun _ _ _ h => h) (Or.inl ⟨by rfl, ?_⟩) hHeld ?_
                  rotate_left
                  focus (intro wq hSw; clear hSw; go_simp; try with_reducible rfl)
                  try simp only [Act.put, List.setIfInBounds_toArray, List.set_cons_zero, List.set_cons_succ]
                  refine wpAnyH_ready (rs := [14]) (by kernel_rfl) (by simp) ?_
                  refine consL rfl (fun K hK => ?_) AllReadyH.nil
                  go_simp
                  refine hK.out _ _ (hHeld.trans (Keeps.of_turn (by have := hHeld.2.2.2.1; omega) ((Turn.refl [N7] w12).setCell (.inl (by simp)) _) (fun x hx => by simp at hx; exact .inr hx))) (fun hHeld => ?_)
                  clear hK K e2 f2
                  try simp only [Act.put, List.setIfInBounds_toArray, List.set_cons_zero, List.set_cons_succ]
                  refine wpAnyH_done (by kernel_rfl) ?_ _
                  refine NoPanic.normal ?_
                  try simp only [Exit.then]
                  go_wp2_with fail
                  go_roundw
                  case measure => simp [intOf]; omega
                  have hsd := HO.out.2
                  have hs11 : (wc2.alloc (.cells #[.int .i64 tg, .slice D1 r1 s1, .slice D2 r2 s2] 25)).heap.size = wc2.heap.size + 1 := by simp
                  have hT13 : Turn [N7] w12 (w12.setCell ⟨N7, 2, none⟩ (.slice A6 n6 c6)) := (Turn.refl [N7] w12).setCell (.inl (by simp)) _
                  have hdc := HC.out.2.2.size
                  have h12s := H12.out.1.below.size
                  have h13s := hT13.size
                  have hkeep : ∀ b, b < wc2.heap.size → b ≠ N7 → (Value.slice Ak mk ck).ownBlock ≠ some b → (w12.setCell ⟨N7, 2, none⟩ (.slice A6 n6 c6)).heap[b]? = wc2.heap[b]? := fun b g1 g2 g3 =>
                    (hT13.block b (by omega) (by simpa using g2)).trans ((H12.out.1.grown.block b (by omega) (fun e => g3 e.symm)).trans (Below.heap_alloc wc2 _ b g1))
                  have hown2 : ∀ b, b < wc2.heap.size → (Value.slice Ak mk ck).ownBlock ≠ some b → (Value.slice A6 n6 c6).ownBlock ≠ some b := fun b g1 g2 e => by
                    rcases H12.out.1.at_ with g3 | g3
                    · rw [g3] at e; exact g2 e
                    · rw [g3] at e; injection e with e; omega
                  have hrow : ∀ b, wr.heap.size ≤ b → (Value.slice Ak mk ck).ownBlock ≠ some b := fun b hb e => by have := (HK.out.own.lt e).2; omega
                  have hrowG : ∀ b, b < wG.heap.size → (Value.slice Ak mk ck).ownBlock ≠ some b := fun b hb e => by have := (HK.out.own.lt e).1; omega
                  have hgl7 : gl ≠ N7 := by omega
                  have hsl := HR.out.2.2.1
                  have hfew := HK.out.few
                  refine ⟨j + 1, lf', kl ++ [k'], fl ++ [⟨tg, D1, r1, s1, D2, r2, s2⟩], A6, n6, c6, by omega, by simp, ?_⟩
                  refine ⟨hsl.1, by omega, ?_, HC.out.2.1.keep (hkeep gl HC.out.2.1.lt hgl7 (hrowG gl (by omega))), ?_, H12.out.1.own.turn hT13 (fun g hg => by have := (H12.out.1.own.lt hg).1; simp; omega), by simp [HK.out.lens], ?_, by simp; omega, Keeps.turn HK.out.turn hHeld⟩
                  · rw [HK.out.ans, HR.out.2.1]; simp
                  · have := H12.out.2.set_ 2 (.slice A6 n6 c6)
                    simpa using this
                  · refine list_snoc HK.out.lens (fun j g k' hg hk => ?_) ?_
                    · refine ((HK.out.kids j g k' hg hk).keep (by omega) (fun b hb => ?_)).mono (fun b hb => ⟨⟨hb.1.1, by have := hb.1.2; omega⟩, hown2 b (by have := hb.1.2; omega) hb.2⟩) (fun _ h => h)
                      exact (hkeep b (by have := hb.1.2; omega) (by have := hb.1.1; omega) hb.2).trans ((HC.out.2.2.block b (by have := hb.1.2; omega) (by have := hb.1.1; simp; omega)).trans (HO.out.1.block b hb.1.2))
                    · refine (HC.out.1.keep (by omega) (fun b hb => hkeep b hb.2 (by have := hb.1; omega) (hrow b (by have := hb.1; omega)))).mono (fun b hb => ⟨⟨by have := hb.1; omega, by have := hb.2; omega⟩, hown2 b hb.2 (hrow b (by have := hb.1; omega))⟩) (fun _ h => h)
          · have hdp : ¬ depth < 18 := by have := HD.out.1; omega
            have hdpd : decide (depth < 18) = false := decide_eq_false hdp
            have HA := Lib.hid (show a0 = (kl, lf) by rw [HK.out.ans, someAll_stop _ (fun h => hd0 h.2)]; simp)
            go_wp2_with (refine wpList_store_arr rfl 25 (.tmp 6) (.tmp 52) rfl (X + 1) 25 _ [.int .i64 tag, .slice A5 n5 c5, .slice Ak mk ck] ((H1.out.2.2.2.2.2.2.1.below HG.out.2.2.2.1).turn HK.out.turn (by simp; omega)) rfl rfl (by kernel_rfl) rfl rfl ?_; intro w9 hB9 hT9; have H9 := Lib.hid (And.intro hB9 hT9); clear hB9 hT9)
            refine bodyPost_ret (node_res1 (f := ⟨tag, A5, n5, c5, Ak, mk, ck⟩) rfl rfl H9.out.1) rfl ?_
            have hT := H9.out.2
            have hs9 := hT.size
            have hGs := HG.out.2.2.1.size
            have hTr : Turn [gl] w w9 := (HG.out.2.2.1.trans HK.out.turn (fun x hx => by
              simp at hx
              rcases hx with rfl | rfl
              · exact .inl (by simp)
              · right; omega)).trans hT (fun x hx => by simp at hx; subst hx; right; omega)
            have hb5 : Own w9 w.heap.size (.slice A5 n5 c5) (bs.take 200) := ((HG.out.1.turn HK.out.turn (fun g hg hm => by
              have := (HG.out.1.lt hg).1
              simp at hm
              rcases hm with rfl | rfl
              · have := H1.out.2.1.size; omega
              · exact HG.out.1.ne HG.out.2.2.2.2.2.bN (by decide) hg)).turn hT (fun g hg hm => by have := (HG.out.1.lt hg).1; have := H1.out.2.2.2.2.2.2.2.1; simp at hm; omega)).mono (by have := H1.out.2.1.size; omega)
            have hans := HG.out.2.2.2.2.1
            rw [HA.out] at hans
            rw [← hans]
            refine ⟨⟨tag, A5, n5, c5, Ak, mk, ck⟩, rfl, ?_, HK.out.bG.turn hT (by simp; omega), hTr⟩
            refine NdR.mk ⟨tag, A5, n5, c5, Ak, mk, ck⟩ (bs.take 200) fl kl hb5.rd (fun a ha => ⟨by have := hb5.blk_le ha; omega, hb5.rd.lt a ha⟩) (HK.out.own.rd.turn hT (fun a ha => by have := (HK.out.own.blk_le ha).1; simp; omega)) HK.out.own.max.1 (fun a ha => by have := HK.out.own.blk_le ha; exact ⟨by omega, by omega⟩) (fun _ h0 => HG.out.2.1 h0) HK.out.lens (fun j g k hg hk => ?_)
            exact ((HK.out.kids j g k hg hk).turn hT (fun b hb => ⟨hb.1.2, by have := hb.1.1; simp; omega⟩)).mono (fun b hb => ⟨by have := hb.1.1; omega, by have := hb.1.2; omega⟩) (fun _ h => h)
        · have hl0d : decide (0 < lf) = false := decide_eq_false hl0
          have HA := Lib.hid (show a0 = (kl, lf) by rw [HK.out.ans, someAll_stop _ (fun h => hl0 h.1)]; simp)
          go_wp2_with (refine wpList_store_arr rfl 25 (.tmp 6) (.tmp 52) rfl (X + 1) 25 _ [.int .i64 tag, .slice A5 n5 c5, .slice Ak mk ck] ((H1.out.2.2.2.2.2.2.1.below HG.out.2.2.2.1).turn HK.out.turn (by simp; omega)) rfl rfl (by kernel_rfl) rfl rfl ?_; intro w9 hB9 hT9; have H9 := Lib.hid (And.intro hB9 hT9); clear hB9 hT9)
          refine bodyPost_ret (node_res1 (f := ⟨tag, A5, n5, c5, Ak, mk, ck⟩) rfl rfl H9.out.1) rfl ?_
          have hT := H9.out.2
          have hs9 := hT.size
          have hGs := HG.out.2.2.1.size
          have hTr : Turn [gl] w w9 := (HG.out.2.2.1.trans HK.out.turn (fun x hx => by
            simp at hx
            rcases hx with rfl | rfl
            · exact .inl (by simp)
            · right; omega)).trans hT (fun x hx => by simp at hx; subst hx; right; omega)
          have hb5 : Own w9 w.heap.size (.slice A5 n5 c5) (bs.take 200) := ((HG.out.1.turn HK.out.turn (fun g hg hm => by
            have := (HG.out.1.lt hg).1
            simp at hm
            rcases hm with rfl | rfl
            · have := H1.out.2.1.size; omega
            · exact HG.out.1.ne HG.out.2.2.2.2.2.bN (by decide) hg)).turn hT (fun g hg hm => by have := (HG.out.1.lt hg).1; have := H1.out.2.2.2.2.2.2.2.1; simp at hm; omega)).mono (by have := H1.out.2.1.size; omega)
          have hans := HG.out.2.2.2.2.1
          rw [HA.out] at hans
          rw [← hans]
          refine ⟨⟨tag, A5, n5, c5, Ak, mk, ck⟩, rfl, ?_, HK.out.bG.turn hT (by simp; omega), hTr⟩
          refine NdR.mk ⟨tag, A5, n5, c5, Ak, mk, ck⟩ (bs.take 200) fl kl hb5.rd (fun a ha => ⟨by have := hb5.blk_le ha; omega, hb5.rd.lt a ha⟩) (HK.out.own.rd.turn hT (fun a ha => by have := (HK.out.own.blk_le ha).1; simp; omega)) HK.out.own.max.1 (fun a ha => by have := HK.out.own.blk_le ha; exact ⟨by omega, by omega⟩) (fun _ h0 => HG.out.2.1 h0) HK.out.lens (fun j g k hg hk => ?_)
          exact ((HK.out.kids j g k hg hk).turn hT (fun b hb => ⟨hb.1.2, by have := hb.1.1; simp; omega⟩)).mono (fun b hb => ⟨by have := hb.1.1; omega, by have := hb.1.2; omega⟩) (fun _ h => h)
      · have hi : ¬ (j : Int) < m2 := by omega
        have hd : decide (j < m2) = false := decide_eq_false hlt
        have HA := Lib.hid (show a0 = (kl, lf) by rw [HK.out.ans, List.drop_of_length_le (by omega), someAll_nil]; simp)
        go_wp2_with (refine wpList_store_arr rfl 25 (.tmp 6) (.tmp 52) rfl (X + 1) 25 _ [.int .i64 tag, .slice A5 n5 c5, .slice Ak mk ck] ((H1.out.2.2.2.2.2.2.1.below HG.out.2.2.2.1).turn HK.out.turn (by simp; omega)) rfl rfl (by kernel_rfl) rfl rfl ?_; intro w9 hB9 hT9; have H9 := Lib.hid (And.intro hB9 hT9); clear hB9 hT9)
        refine bodyPost_ret (node_res1 (f := ⟨tag, A5, n5, c5, Ak, mk, ck⟩) rfl rfl H9.out.1) rfl ?_
        have hT := H9.out.2
        have hs9 := hT.size
        have hGs := HG.out.2.2.1.size
        have hTr : Turn [gl] w w9 := (HG.out.2.2.1.trans HK.out.turn (fun x hx => by
          simp at hx
          rcases hx with rfl | rfl
          · exact .inl (by simp)
          · right; omega)).trans hT (fun x hx => by simp at hx; subst hx; right; omega)
        have hb5 : Own w9 w.heap.size (.slice A5 n5 c5) (bs.take 200) := ((HG.out.1.turn HK.out.turn (fun g hg hm => by
          have := (HG.out.1.lt hg).1
          simp at hm
          rcases hm with rfl | rfl
          · have := H1.out.2.1.size; omega
          · exact HG.out.1.ne HG.out.2.2.2.2.2.bN (by decide) hg)).turn hT (fun g hg hm => by have := (HG.out.1.lt hg).1; have := H1.out.2.2.2.2.2.2.2.1; simp at hm; omega)).mono (by have := H1.out.2.1.size; omega)
        have hans := HG.out.2.2.2.2.1
        rw [HA.out] at hans
        rw [← hans]
        refine ⟨⟨tag, A5, n5, c5, Ak, mk, ck⟩, rfl, ?_, HK.out.bG.turn hT (by simp; omega), hTr⟩
        refine NdR.mk ⟨tag, A5, n5, c5, Ak, mk, ck⟩ (bs.take 200) fl kl hb5.rd (fun a ha => ⟨by have := hb5.blk_le ha; omega, hb5.rd.lt a ha⟩) (HK.out.own.rd.turn hT (fun a ha => by have := (HK.out.own.blk_le ha).1; simp; omega)) HK.out.own.max.1 (fun a ha => by have := HK.out.own.blk_le ha; exact ⟨by omega, by omega⟩) (fun _ h0 => HG.out.2.1 h0) HK.out.lens (fun j g k hg hk => ?_)
        exact ((HK.out.kids j g k hg hk).turn hT (fun b hb => ⟨hb.1.2, by have := hb.1.1; simp; omega⟩)).mono (fun b hb => ⟨by have := hb.1.1; omega, by have := hb.1.2; omega⟩) (fun _ h => h)
end Go.Proofs.Ytgkhhinjdojbhaa
