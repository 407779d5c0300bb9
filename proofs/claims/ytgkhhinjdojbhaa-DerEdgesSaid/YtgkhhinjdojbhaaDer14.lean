/-
  DER: a node is read.
-/
import Derived.Test.YtgkhhinjdojbhaaDer13
import Derived.Test.YtgkhhinjdojbhaaDer9
namespace Go.Proofs.Ytgkhhinjdojbhaa
open Go.RowKit

def zNF : NF := ⟨0, none, 0, 0, none, 0, 0⟩
/-- What reading a node gives. -/
def NodePost (A : Option Addr) (w w' : World) (e : Ending) : Option (Nd × List UInt8) → Prop
  | none => ∃ (f : NF) (A1 : Option Addr) (n1 c1 : Nat), e = .returned (.tuple #[f.val, .slice A1 n1 c1, .bool false])
  | some (n, rest) => ∃ (f : NF) (A1 : Option Addr) (n1 c1 : Nat), e = .returned (.tuple #[f.val, .slice A1 n1 c1, .bool true]) ∧ NdR (fun b => w.heap.size ≤ b ∧ b < w'.heap.size) NB w' f n ∧ Rd w' A1 n1 c1 rest ∧ From A A1
theorem decL_left {d : Nat} {left : Int} {b : List UInt8} {n : Nd} {r : List UInt8} (h0 : 0 ≤ left) (h : (decL d left b).1 = some (n, r)) : 0 ≤ (decL d left b).2 ∧ (decL d left b).2 ≤ left := by
  obtain ⟨h1, h2⟩ := decL_counts d left b h0
  cases hd : dec d b with
  | none => rw [h1 hd] at h; cases h
  | some x =>
    obtain ⟨n', r'⟩ := x
    have h3 := h2 n' r' hd
    split at h3
    · rw [h3]; simp only; omega
    · rw [h3] at h; cases h
theorem decL_less {d : Nat} {left : Int} {b : List UInt8} {n : Nd} {r : List UInt8} (h : (decL d left b).1 = some (n, r)) : r.length + 2 ≤ b.length := by
  cases d with
  | zero => unfold decL at h; cases h
  | succ d =>
    unfold decL at h
    split at h
    · cases h
    · split at h
      · cases h
      · rename_i hd
        have hl := headW_less hd
        split at h
        · simp only [Option.map_eq_some_iff, Prod.mk.injEq] at h
          obtain ⟨_, _, _, h⟩ := h
          subst h; omega
        · simp only at h
          split at h
          · simp only [Option.some.injEq, Prod.mk.injEq] at h
            obtain ⟨_, h⟩ := h
            subst h; omega
          · cases h
theorem manyL_nil (f : Int → List UInt8 → Option (Nd × List UInt8) × Int) (fuel : Nat) (left : Int) : manyL f fuel left [] = (some [], left) := by unfold manyL; cases fuel <;> rfl
theorem manyL_none {f : Int → List UInt8 → Option (Nd × List UInt8) × Int} {fuel : Nat} {left : Int} {x : UInt8} {b : List UInt8} (h : (f left (x :: b)).1 = none) : manyL f (fuel + 1) left (x :: b) = (none, (f left (x :: b)).2) := by
  unfold manyL
  cases hq : f left (x :: b) with
  | mk o l => rw [hq] at h; simp only at h; subst h; rfl
theorem manyL_some {f : Int → List UInt8 → Option (Nd × List UInt8) × Int} {fuel : Nat} {left : Int} {x : UInt8} {b : List UInt8} {k : Nd} {r : List UInt8} (h : (f left (x :: b)).1 = some (k, r)) :
    manyL f (fuel + 1) left (x :: b) = ((manyL f fuel (f left (x :: b)).2 r).1.map (k :: ·), (manyL f fuel (f left (x :: b)).2 r).2) := by
  conv => lhs; unfold manyL
  cases hq : f left (x :: b) with
  | mk o l => rw [hq] at h; simp only at h; subst h; rfl
/-- The first result in its cell. -/
theorem node_res {fn : Func} {tmps : Array Value} {W : World} {R : Nat} {f : NF} {p q r : Tmp} (hr : fn.results = #[.cell p 25, .tmp q, .tmp r]) (hp : tmps.getD p undef = .pointer (some ⟨R, 0, none⟩)) (hb : Blk W R 25 f.cells.toArray) :
    (results fn tmps).run Try.prog W = .ok (.tuple #[f.val, tmps.getD q undef, tmps.getD r undef]) W := by
  have z0 := hb.cell 0
  have z1 := hb.cell 1
  have z2 := hb.cell 2
  simp only [NF.cells, List.getElem?_toArray, List.getElem?_cons_succ, List.getElem?_cons_zero] at z0 z1 z2
  have hp' : tmps[p]?.getD undef = .pointer (some ⟨R, 0, none⟩) := by simpa using hp
  simp [results, hr, go_sem, hp', z0, z1, z2, NF.val]

theorem Turn.then_below {S : List Nat} {w w' w'' : World} {N : Nat} (h : Turn S w w') (k : Below N w' w'') (hN : w.heap.size ≤ N) : Turn S w w'' :=
  ⟨k.os.trans h.os, k.tape.trans h.tape, k.output.trans h.output, Nat.le_trans h.size k.size, fun i hi hn => (k.block i (by omega)).trans (h.block i hi hn)⟩
theorem OwnE.blk_le {α : Type} {E : ETy α} {w : World} {base : Nat} {A : Option Addr} {n c : Nat} {l : List α} (h : OwnE E w base (.slice A n c) l) {a : Addr} (ha : A = some a) : base ≤ a.block ∧ a.block < w.heap.size := by
  obtain ⟨h1, h2⟩ := h
  rcases h2 with ⟨e, _⟩ | ⟨g, c', cs, e, hg, hh, r⟩
  · injection e with e; rw [e] at ha; cases ha
  · injection e with e; rw [e] at ha; cases ha; exact ⟨hg, Blk.lt hh⟩
theorem list_snoc {α β : Type} {P : α → β → Prop} {l : List α} {m : List β} {x : α} {y : β} (hl : l.length = m.length) (h : ∀ (j : Nat) (a : α) (b : β), l[j]? = some a → m[j]? = some b → P a b) (hx : P x y) : ∀ (j : Nat) (a : α) (b : β), (l ++ [x])[j]? = some a → (m ++ [y])[j]? = some b → P a b := by
  intro j a b ha hb
  by_cases hj : j < l.length
  · rw [List.getElem?_append_left hj] at ha
    rw [List.getElem?_append_left (by omega)] at hb
    exact h j a b ha hb
  · rw [List.getElem?_append_right (by omega)] at ha
    rw [List.getElem?_append_right (by omega)] at hb
    have e : m.length = l.length := hl.symm
    rw [e] at hb
    cases hk : j - l.length with
    | zero => rw [hk] at ha hb; simp at ha hb; subst ha; subst hb; exact hx
    | succ i => rw [hk] at ha; simp at ha
theorem Own.blk_le {w : World} {base n c : Nat} {A : Option Addr} {l : List UInt8} (h : Own w base (.slice A n c) l) {a : Addr} (ha : A = some a) : base ≤ a.block := by
  obtain ⟨A', c', heq, hrd, hb⟩ := h.shape
  cases heq
  exact hb a ha
/-- What stands between two rounds of a node's reading: gl: the count's block; X: the result's; N: the node's; B: the heap's size ahead of the loop. -/
structure KI (gl X N B d : Nat) (lim : Int) (A : Option Addr) (a0 : Option (List Nd) × Int) (w wr : World) (Ah : Option Addr) (nh ch : Nat) (hl : List UInt8) (fuel : Nat) (lf : Int) (ks : List Nd) (fs : List NF) (A2 : Option Addr) (m2 c2 : Nat) : Prop where
  rd : Rd wr Ah nh ch hl
  frm : From A Ah
  fue : hl.length ≤ fuel
  len : hl.length + ks.length ≤ 1000000
  low : 0 ≤ lf
  high : lf ≤ lim
  ans : a0 = ((manyL (decL d) fuel lf hl).1.map (ks ++ ·), (manyL (decL d) fuel lf hl).2)
  bG : Blk wr gl 75 #[.int .i64 lf]
  bX : Blk wr X 25 #[.int .i64 0, .slice none 0 0, .slice none 0 0]
  bN : Blk wr N 25 #[.int .i64 48, .slice none 0 0, .slice A2 m2 c2]
  own : OwnE Try.eN wr B (.slice A2 m2 c2) fs
  lens : fs.length = ks.length
  kids : ∀ (j : Nat) (g : NF) (k : Nd), fs[j]? = some g → ks[j]? = some k → NdR (fun b => (B ≤ b ∧ b < wr.heap.size) ∧ (Value.slice A2 m2 c2).ownBlock ≠ some b) NB wr g k
  turn : Turn [gl] w wr
  size : B ≤ wr.heap.size

set_option maxRecDepth 100000 in
set_option maxHeartbeats 8000000 in
theorem node_any (gl : Nat) : ∀ (d : Nat) (A : Option Addr) (m c : Nat) (b : List UInt8) (depth left : Int) (w : World), Rd w A m c b → m ≤ 1000000 → (∀ a, A = some a → a.block ≠ gl) → 0 ≤ left → left ≤ 2000 → d ≤ 16 → depth = 16 - (d : Int) → Blk w gl 75 #[.int .i64 left] →
    Calls Try.prog 41 #[.pointer (some ⟨gl, 0, none⟩), .slice A m c, .int .i64 depth] w fun e w' => NodePost A w w' e (decL d left b).1 ∧ Blk w' gl 75 #[.int .i64 (decL d left b).2] ∧ Turn [gl] w w' := by
  intro d
  induction d with
  | zero =>
    intro A m c b depth left w h hm hgl h0 h1 hd16 hdep hB
    obtain ⟨X, hX⟩ : ∃ X, w.heap.size = X := ⟨_, rfl⟩
    have hglX : gl < X := by rw [← hX]; exact hB.lt
    obtain ⟨wA, hwA⟩ : ∃ wA, w.alloc (.cells #[.int .i64 0, .slice none 0 0, .slice none 0 0] 25) = wA := ⟨_, rfl⟩
    have bA : Blk wA X 25 #[.int .i64 0, .slice none 0 0, .slice none 0 0] := by rw [← hwA, ← hX]; exact Blk.new _ _ _
    have hbA : Below w.heap.size w wA := by rw [← hwA]; exact (Below.refl _ _).alloc (Nat.le_refl _) _
    have cl : wA.cell? ⟨gl, 0, none⟩ = some (.int .i64 left) := by rw [(hB.below hbA).cell]; rfl
    have fl := (hB.below hbA).frozen 0
    obtain ⟨w1, hw1⟩ : ∃ w1, wA.setCell ⟨gl, 0, none⟩ (.int .i64 (left - 1)) = w1 := ⟨_, rfl⟩
    have b1 : Blk w1 gl 75 #[.int .i64 (left - 1)] := by rw [← hw1]; have := (hB.below hbA).set_ 0 (.int .i64 (left - 1)); simpa using this
    have hT1 : Turn [gl] w w1 := by rw [← hw1]; exact (Turn.of_below _ hbA).setCell (.inl (by simp)) _
    have bX1 : Blk w1 X 25 #[.int .i64 0, .slice none 0 0, .slice none 0 0] := by rw [← hw1]; exact bA.far (by simp; omega) _
    have cl1 : w1.cell? ⟨gl, 0, none⟩ = some (.int .i64 (left - 1)) := by rw [b1.cell]; rfl
    have H1 := Lib.hid (And.intro b1 (And.intro hT1 bX1))
    have t2 : (16 : Int) ≤ depth := by omega
    have t2d : decide ((16 : Int) ≤ depth) = true := decide_eq_true t2
    clear hdep hd16 h hgl hB b1 hT1 bX1 bA hbA
    unfold decL
    go_enter Try.func41, Try.ntmps41
    go_wp2_with fail
    try rw [hwA]
    try rw [hX]
    go_step3
    go_upto_region 2 with fail
    try rw [hw1]
    by_cases t1 : left - 1 < 0
    · have t1d : decide (left - 1 < 0) = true := decide_eq_true t1
      go_wp2_with (refine wpList_store_arr rfl 25 (.tmp 6) (.tmp 31) rfl X 25 _ [.int .i64 0, .slice none 0 0, .slice none 0 0] H1.out.2.2 rfl rfl (by kernel_rfl) rfl rfl ?_; intro w9 hB9 hT9; have H9 := Lib.hid (And.intro hB9 hT9); clear hB9 hT9)
      try rw [Exit.noGoto_ret]
      refine bodyPost_ret (node_res (f := zNF) rfl rfl H9.out.1) rfl ?_
      exact ⟨⟨zNF, none, 0, 0, rfl⟩, (H1.out.1).turn H9.out.2 (by simp; omega), (H1.out.2.1).trans H9.out.2 (fun x hx => by simp at hx; subst hx; right; omega)⟩
    · have t1d : decide (left - 1 < 0) = false := decide_eq_false t1
      go_wp2_with (refine wpList_store_arr rfl 25 (.tmp 6) (.tmp 31) rfl X 25 _ [.int .i64 0, .slice none 0 0, .slice none 0 0] H1.out.2.2 rfl rfl (by kernel_rfl) rfl rfl ?_; intro w9 hB9 hT9; have H9 := Lib.hid (And.intro hB9 hT9); clear hB9 hT9)
      try rw [Exit.noGoto_ret]
      refine bodyPost_ret (node_res (f := zNF) rfl rfl H9.out.1) rfl ?_
      exact ⟨⟨zNF, none, 0, 0, rfl⟩, (H1.out.1).turn H9.out.2 (by simp; omega), (H1.out.2.1).trans H9.out.2 (fun x hx => by simp at hx; subst hx; right; omega)⟩
  | succ d ih =>
  intro A m c b depth left w h hm hgl h0 h1 hd16 hdep hB
  obtain ⟨ans, hans⟩ : ∃ ans, decL (d + 1) left b = ans := ⟨_, rfl⟩
  rw [hans]
  unfold decL at hans
  obtain ⟨X, hX⟩ : ∃ X, w.heap.size = X := ⟨_, rfl⟩
  have hglX : gl < X := by rw [← hX]; exact hB.lt
  obtain ⟨wA, hwA⟩ : ∃ wA, w.alloc (.cells #[.int .i64 0, .slice none 0 0, .slice none 0 0] 25) = wA := ⟨_, rfl⟩
  have bA : Blk wA X 25 #[.int .i64 0, .slice none 0 0, .slice none 0 0] := by rw [← hwA, ← hX]; exact Blk.new _ _ _
  have hbA : Below w.heap.size w wA := by rw [← hwA]; exact (Below.refl _ _).alloc (Nat.le_refl _) _
  have cl : wA.cell? ⟨gl, 0, none⟩ = some (.int .i64 left) := by rw [(hB.below hbA).cell]; rfl
  have fl := (hB.below hbA).frozen 0
  obtain ⟨w1, hw1⟩ : ∃ w1, wA.setCell ⟨gl, 0, none⟩ (.int .i64 (left - 1)) = w1 := ⟨_, rfl⟩
  have b1 : Blk w1 gl 75 #[.int .i64 (left - 1)] := by rw [← hw1]; have := (hB.below hbA).set_ 0 (.int .i64 (left - 1)); simpa using this
  have hT1 : Turn [gl] w w1 := by rw [← hw1]; exact (Turn.of_below _ hbA).setCell (.inl (by simp)) _
  have bX1 : Blk w1 X 25 #[.int .i64 0, .slice none 0 0, .slice none 0 0] := by rw [← hw1]; exact bA.far (by simp; omega) _
  have hs1 : w1.heap.size = X + 1 := by rw [← hw1, ← hwA, ← hX]; simp
  have cl1 : w1.cell? ⟨gl, 0, none⟩ = some (.int .i64 (left - 1)) := by rw [b1.cell]; rfl
  have hR1 := h.turn hT1 (fun a ha hm => by simp at hm; exact hgl a ha hm)
  have H1 := Lib.hid (And.intro b1 (And.intro hT1 (And.intro hR1 (And.intro bX1 (And.intro hs1 hX)))))
  have HI := Lib.hid ih
  have HD := Lib.hid (And.intro hdep hd16)
  have HG := Lib.hid (And.intro hgl (show ∀ a, A = some a → a.block < X from fun a ha => by rw [← hX]; exact h.lt a ha))
  clear hdep hd16 h hgl hB b1 hT1 hR1 ih bX1 hs1 bA hbA
  go_enter Try.func41, Try.ntmps41
  go_wp2_with fail
  try rw [hwA]
  try rw [hX]
  go_step3
  have HN := Lib.hid hans
  clear hans
  go_upto_region 2 with fail
  try rw [hw1]
  by_cases t1 : left - 1 < 0
  · have hans := HN.out
    rw [if_pos t1] at hans
    have hans := Lib.hid hans.symm
    have t1d : decide (left - 1 < 0) = true := decide_eq_true t1
    go_wp2_with (refine wpList_store_arr rfl 25 (.tmp 6) (.tmp 31) rfl X 25 _ [.int .i64 0, .slice none 0 0, .slice none 0 0] H1.out.2.2.2.1 rfl rfl (by kernel_rfl) rfl rfl ?_; intro w9 hB9 hT9; have H9 := Lib.hid (And.intro hB9 hT9); clear hB9 hT9)
    try rw [Exit.noGoto_ret]
    refine bodyPost_ret (node_res (f := zNF) rfl rfl H9.out.1) rfl ?_
    rw [hans.out]
    exact ⟨⟨zNF, none, 0, 0, rfl⟩, (H1.out.1).turn H9.out.2 (by simp; omega), (H1.out.2.1).trans H9.out.2 (fun x hx => by simp at hx; subst hx; right; omega)⟩
  have hans := HN.out
  rw [if_neg t1] at hans
  have HN := Lib.hid hans
  clear hans
  have t1d : decide (left - 1 < 0) = false := decide_eq_false t1
  have t2 : ¬ (16 : Int) ≤ depth := by have := HD.out.1; have := HD.out.2; omega
  have t2d : decide ((16 : Int) ≤ depth) = false := decide_eq_false t2
  have hd0 : 0 ≤ depth := by have := HD.out.1; have := HD.out.2; omega
  have hhead := head_any A m c b w1 H1.out.2.2.1 hm
  go_wp2_with fail
  refine hhead.mono ?_
  rintro e w2 ⟨hpost, hb2⟩
  clear hhead
  have hT2 : Turn [gl] w w2 := H1.out.2.1.trans (Turn.of_below [gl] hb2) (fun x hx => .inl hx)
  have H2 := Lib.hid (And.intro (H1.out.1.below hb2) (And.intro (H1.out.2.2.2.1.below hb2) (And.intro hT2 (show X + 1 ≤ w2.heap.size by have := hb2.size; have := H1.out.2.2.2.2.1; omega))))
  clear hb2 hT2
  have hw1c := Lib.hid hw1
  clear hw1 hwA cl fl cl1
  cases hhd : headW b with
  | none =>
    have hans := HN.out
    rw [hhd] at hans hpost
    obtain rfl := hpost
    have hans := Lib.hid hans.symm
    go_wp2_with (refine wpList_store_arr rfl 25 (.tmp 6) (.tmp 41) rfl X 25 _ [.int .i64 0, .slice none 0 0, .slice none 0 0] H2.out.2.1 rfl rfl (by kernel_rfl) rfl rfl ?_; intro w9 hB9 hT9; have H9 := Lib.hid (And.intro hB9 hT9); clear hB9 hT9)
    try rw [Exit.noGoto_ret]
    refine bodyPost_ret (node_res (f := zNF) rfl rfl H9.out.1) rfl ?_
    rw [hans.out]
    exact ⟨⟨zNF, none, 0, 0, rfl⟩, (H2.out.1).turn H9.out.2 (by simp; omega), (H2.out.2.2.1).trans H9.out.2 (fun x hx => by simp at hx; subst hx; right; omega)⟩
  | some hx =>
    obtain ⟨tag, held, rest⟩ := hx
    have hans := HN.out
    rw [hhd] at hans hpost
    have hless := headW_less hhd
    simp only at hans
    obtain ⟨A1, n1, c1, A2, n2, c2, rfl, hRh, hRr, hFh, hFr⟩ := hpost
    have HF := Lib.hid (And.intro hRh (And.intro hRr (And.intro hFh (And.intro hFr hless))))
    clear hRh hRr hFh hFr hless hhd
    by_cases t3 : tag = 48
    · subst t3
      rw [if_pos rfl] at hans
      obtain ⟨a0, ha0⟩ : ∃ a0, manyL (decL d) held.length (left - 1) held = a0 := ⟨_, rfl⟩
      rw [ha0] at hans
      have HN := Lib.hid hans
      obtain ⟨N, hNs⟩ : ∃ N, w2.heap.size = N := ⟨_, rfl⟩
      have bZ : Blk (w2.alloc (.cells #[.int .i64 0, .slice none 0 0, .slice none 0 0] 25)) N 25 #[.int .i64 0, .slice none 0 0, .slice none 0 0] := by rw [← hNs]; exact Blk.new _ _ _
      have hbZ : Below w2.heap.size w2 (w2.alloc (.cells #[.int .i64 0, .slice none 0 0, .slice none 0 0] 25)) := (Below.refl _ _).alloc (Nat.le_refl _) _
      have hsZ : (w2.alloc (.cells #[.int .i64 0, .slice none 0 0, .slice none 0 0] 25)).heap.size = N + 1 := by rw [← hNs]; simp
      have hXN : X < N := by have := H2.out.2.2.2; omega
      have hmb := Lib.hid H1.out.2.2.1.1
      have HZ := Lib.hid (And.intro bZ (And.intro hbZ hsZ))
      have HA0 := Lib.hid ha0
      have HNs := Lib.hid hNs
      clear hans bZ hbZ hsZ ha0
      go_wp2_with (refine wpList_store_arr rfl 25 (.tmp 13) (.tmp 53) rfl N 25 _ [.int .i64 48, .slice none 0 0, .slice none 0 0] HZ.out.1 rfl rfl (by kernel_rfl) rfl rfl ?_; intro wN hBN hTN; have H9 := Lib.hid (And.intro hBN hTN); clear hBN hTN)
      have hbN : Below w2.heap.size w2 wN := below_turn HZ.out.2.1 H9.out.2 (fun t ht => by simp at ht; have := HNs.out; omega) HZ.out.2.1.size
      have hK0 : KI gl X N (N + 1) d (left - 1) A a0 w wN A1 n1 c1 held held.length (left - 1) [] [] none 0 0 :=
        ⟨HF.out.1.below hbN, HF.out.2.2.1, Nat.le_refl _, by have := HF.out.2.2.2.2; have := hmb.out; simp; omega, by omega, by omega, by rw [HA0.out]; simp, H2.out.1.below hbN, H2.out.2.1.below hbN, H9.out.1, OwnE.nil _ _, rfl, by simp, H2.out.2.2.1.trans (Turn.of_below [gl] hbN) (fun x hx => .inl hx), by have := H9.out.2.size; have := HZ.out.2.2; omega⟩
      have HK0 := Lib.hid hK0
      clear hK0 hbN
      go_step3
      go_wp2_with fail
      simp only [Act.put]
      go_loopw [10] (fun hh wr => ∃ (Ah : Option Addr) (nh ch : Nat) (hl : List UInt8) (fuel : Nat) (lf : Int) (ks : List Nd) (fs : List NF) (A2 : Option Addr) (m2 c2 : Nat), hh = .slice Ah nh ch ∧ KI gl X N (N + 1) d (left - 1) A a0 w wr Ah nh ch hl fuel lf ks fs A2 m2 c2) (fun hh _ => match hh with | .slice _ n _ => n | _ => 0)
      case atStart => exact ⟨_, _, _, _, _, _, _, _, _, _, _, rfl, HK0.out⟩
      case round =>
        obtain ⟨Ah, nh, ch, hl, fuel, lf, kl, fl, Ak, mk, ck, rfl, hK⟩ := hrel
        have hnl := hK.rd.1
        have hz2 := hK.bN.cell 2
        have hz1 := hK.bN.cell 1
        have hz0 := hK.bN.cell 0
        simp only [List.getElem?_toArray, List.getElem?_cons_succ, List.getElem?_cons_zero] at hz0 hz1 hz2
        have hXw := H1.out.2.2.2.2.2
        have HK := Lib.hid hK
        clear hK
        by_cases hn0 : nh = 0
        · subst hn0
          obtain rfl : hl = [] := List.eq_nil_of_length_eq_zero hnl.symm
          have HAns := Lib.hid (show ans = (some (.mk 48 [] kl, rest), lf) by rw [← HN.out, HK.out.ans, manyL_nil]; simp)
          clear hnl
          go_wp2_with (refine wpList_store_arr rfl 25 (.tmp 6) (.tmp 74) rfl X 25 _ [.int .i64 48, .slice none 0 0, .slice Ak mk ck] HK.out.bX rfl rfl (by kernel_rfl) rfl rfl ?_; intro w9 hB9 hT9; have H10 := Lib.hid (And.intro hB9 hT9); clear hB9 hT9)
          try rw [Exit.noGoto_ret]
          refine bodyPost_ret (node_res (f := ⟨48, none, 0, 0, Ak, mk, ck⟩) rfl rfl H10.out.1) rfl ?_
          rw [HAns.out]
          have hs := HK.out.size
          have hT := H10.out.2
          have hRr : Rd w9 A2 n2 c2 rest := by
            refine HF.out.2.1.keep (w' := w9) (Nat.le_trans (by have := HNs.out; omega) hT.size) (fun a ha => ?_)
            obtain ⟨ad, e1, e2⟩ := HF.out.2.2.2.1 a ha
            have h9 := HG.out.2 ad e1
            have h8 := HG.out.1 ad e1
            rw [e2]
            exact (HK.out.turn.trans hT (fun x hx => by simp at hx; subst hx; right; omega)).block ad.block (by omega) (by simpa using h8) |>.trans (H2.out.2.2.1.block ad.block (by omega) (by simpa using h8)).symm
          refine ⟨⟨⟨48, none, 0, 0, Ak, mk, ck⟩, A2, n2, c2, rfl, ?_, hRr, HF.out.2.2.2.1⟩, HK.out.bG.turn hT (by simp; omega), HK.out.turn.trans hT (fun x hx => by simp at hx; subst hx; right; omega)⟩
          refine NdR.mk ⟨48, none, 0, 0, Ak, mk, ck⟩ [] fl kl (Rd.nil _) (fun a ha => by cases ha) (HK.out.own.rd.turn hT (fun a ha => by have := (HK.out.own.blk_le ha).1; simp; omega)) HK.out.own.max.1 (fun a ha => by have := HK.out.own.blk_le ha; have := hT.size; exact ⟨by omega, by omega⟩) (fun _ => ⟨rfl, rfl, rfl⟩) HK.out.lens (fun j g k hg hk => ?_)
          exact ((HK.out.kids j g k hg hk).turn hT (fun b hb => ⟨hb.1.2, by have := hb.1.1; simp; omega⟩)).mono (fun b hb => ⟨by have := hb.1.1; omega, by have := hb.1.2; have := hT.size; omega⟩) (fun _ h => h)
        · have t4 : (0 : Int) < nh := by omega
          have t4d : decide ((0 : Int) < (nh : Int)) = true := decide_eq_true t4
          obtain ⟨x, hl', rfl⟩ : ∃ x hl', hl = x :: hl' := by
            cases hl with
            | nil => simp only [List.length_nil] at hnl; omega
            | cons x l => exact ⟨x, l, rfl⟩
          obtain ⟨fu, rfl⟩ : ∃ fu, fuel = fu + 1 := ⟨fuel - 1, by have := HK.out.fue; simp only [List.length_cons] at this; omega⟩
          obtain ⟨Kb, hKb⟩ : ∃ Kb, wr.heap.size = Kb := ⟨_, rfl⟩
          obtain ⟨wk, hwk⟩ : ∃ wk, wr.alloc (.cells #[.int .i64 0, .slice none 0 0, .slice none 0 0] 25) = wk := ⟨_, rfl⟩
          have bK : Blk wk Kb 25 #[.int .i64 0, .slice none 0 0, .slice none 0 0] := by rw [← hwk, ← hKb]; exact Blk.new _ _ _
          have hbk : Below wr.heap.size wr wk := by rw [← hwk]; exact (Below.refl _ _).alloc (Nat.le_refl _) _
          have hsk : wk.heap.size = Kb + 1 := by rw [← hwk, ← hKb]; simp
          have hlen1 := HK.out.len
          have hcall := HI.out Ah nh ch (x :: hl') (depth + 1) lf wk (HK.out.rd.below hbk) (by omega) (fun a ha => by obtain ⟨ad, e1, e2⟩ := HK.out.frm a ha; rw [e2]; exact HG.out.1 ad e1) HK.out.low (by have := HK.out.high; omega) (by have := HD.out.2; omega) (by have := HD.out.1; omega) (HK.out.bG.below hbk)
          have hNK : N + 1 ≤ Kb := by have := HK.out.size; omega
          have HS := Lib.hid (And.intro bK (And.intro hbk hsk))
          have HL := Lib.hid (And.intro hnl hlen1)
          clear bK hbk hsk hnl hlen1
          go_wp2_with fail
          try rw [hwk]
          try rw [hKb]
          go_wp2_with fail
          refine hcall.mono ?_
          rintro e wc ⟨hp, hBg, hTk⟩
          clear hcall
          have HC := Lib.hid (And.intro hBg (And.intro hTk (HS.out.1.turn hTk (by simp; omega))))
          clear hBg hTk
          cases hq : (decL d lf (x :: hl')).1 with
          | none =>
            rw [hq] at hp
            obtain ⟨⟨tg, B1, n1', k1, B2, n2', k2⟩, A3, n3, c3, rfl⟩ := hp
            have HAns := Lib.hid (show ans = (none, (decL d lf (x :: hl')).2) by rw [← HN.out, HK.out.ans, manyL_none hq]; simp)
            have hTc : Turn [gl] w wc := HK.out.turn.trans ((Turn.of_below [gl] HS.out.2.1).trans HC.out.2.1 (fun x hx => .inl hx)) (fun x hx => .inl hx)
            have hXc := (HK.out.bX.below HS.out.2.1).turn HC.out.2.1 (by simp; omega)
            have HW := Lib.hid (And.intro hTc hXc)
            clear hTc hXc
            simp only [NF.val]
            go_wp2_with (first | (refine wpList_store_arr rfl 25 (.tmp 14) (.tmp 63) rfl Kb 25 _ [.int .i64 tg, .slice B1 n1' k1, .slice B2 n2' k2] HC.out.2.2 rfl rfl (by kernel_rfl) rfl rfl ?_; intro w5 hB5 hT5; have H5 := Lib.hid (And.intro (HW.out.2.turn hT5 (by simp; omega)) (And.intro (HC.out.1.turn hT5 (by simp; omega)) (HW.out.1.trans hT5 (fun x hx => by simp at hx; subst hx; right; omega)))); clear hB5 hT5) | (refine wpList_store_arr rfl 25 (.tmp 6) (.tmp 73) rfl X 25 _ [.int .i64 0, .slice none 0 0, .slice none 0 0] H5.out.1 rfl rfl (by kernel_rfl) rfl rfl ?_; intro w9 hB9 hT9; have H10 := Lib.hid (And.intro hB9 hT9); clear hB9 hT9))
            try rw [Exit.noGoto_ret]
            refine bodyPost_ret (node_res (f := zNF) rfl rfl H10.out.1) rfl ?_
            rw [HAns.out]
            exact ⟨⟨zNF, none, 0, 0, rfl⟩, H5.out.2.1.turn H10.out.2 (by simp; omega), H5.out.2.2.trans H10.out.2 (fun x hx => by simp at hx; subst hx; right; omega)⟩
          | some kr =>
            obtain ⟨k, rs⟩ := kr
            rw [hq] at hp
            obtain ⟨⟨tg, B1, n1', k1, B2, n2', k2⟩, A3, n3, c3, rfl, hNk, hRs, hFr⟩ := hp
            have hll := decL_left HK.out.low hq
            have hls := decL_less hq
            obtain ⟨lf2, hlf2⟩ : ∃ lf2, (decL d lf (x :: hl')).2 = lf2 := ⟨_, rfl⟩
            rw [hlf2] at hll HC
            have HAns := Lib.hid (show a0 = ((manyL (decL d) fu lf2 rs).1.map (kl ++ [k] ++ ·), (manyL (decL d) fu lf2 rs).2) by
              rw [HK.out.ans, manyL_some hq, hlf2]
              cases (manyL (decL d) fu lf2 rs).1 <;> simp)
            have hTc : Turn [gl] w wc := HK.out.turn.trans ((Turn.of_below [gl] HS.out.2.1).trans HC.out.2.1 (fun x hx => .inl hx)) (fun x hx => .inl hx)
            have hXc := (HK.out.bX.below HS.out.2.1).turn HC.out.2.1 (by simp; omega)
            have hNc := (HK.out.bN.below HS.out.2.1).turn HC.out.2.1 (by simp; omega)
            have hOc := (HK.out.own.below HS.out.2.1).turn HC.out.2.1 (fun g hg => by have := (HK.out.own.lt hg).1; simp; omega)
            have hkc : ∀ (j : Nat) (g : NF) (k : Nd), fl[j]? = some g → kl[j]? = some k → NdR (fun b => (N + 1 ≤ b ∧ b < Kb) ∧ (Value.slice Ak mk ck).ownBlock ≠ some b) NB wc g k := fun j g k hg hk => by
              have h9 := HK.out.kids j g k hg hk
              rw [hKb] at h9
              exact (h9.bel HS.out.2.1 (fun b hb => by have := hb.1.2; omega)).turn HC.out.2.1 (fun b hb => ⟨by have := hb.1.2; have := HS.out.2.2; omega, by have := hb.1.1; simp; omega⟩)
            have HW := Lib.hid (And.intro hTc (And.intro hXc (And.intro hNc (And.intro hOc (And.intro hkc (And.intro hNk (And.intro hRs (And.intro hFr (And.intro hll hls)))))))))
            clear hTc hXc hNc hOc hkc hNk hRs hFr hll hls hlf2
            simp only [NF.val]
            have hfl := HK.out.lens
            have HLN := Lib.hid (show fl.length + 1 ≤ 1000000 by have := HL.out.2; simp only [List.length_cons] at this; omega)
            clear hfl
            go_wp2_with (first | (refine wpList_store_arr rfl 25 (.tmp 14) (.tmp 63) rfl Kb 25 _ [.int .i64 tg, .slice B1 n1' k1, .slice B2 n2' k2] HC.out.2.2 rfl rfl (by kernel_rfl) rfl rfl ?_; intro w5 hB5 hT5; have H5 := Lib.hid (And.intro hB5 hT5); have y0 := hB5.cell 0; have y1 := hB5.cell 1; have y2 := hB5.cell 2; have z2 := (HW.out.2.2.1.turn hT5 (by simp; omega)).cell 2; simp only [List.getElem?_toArray, List.getElem?_cons_succ, List.getElem?_cons_zero] at y0 y1 y2 z2; clear hB5 hT5) | (at_builtin; go_loud (refine wp_appE Try.eN (.tmp 68) (.tmp 70) (N + 1) (.slice Ak mk ck) fl ((HW.out.2.2.2.1.turn H5.out.2 (fun g hg => by have := (HK.out.own.lt hg).2; simp; omega)).below ((Below.refl _ _).alloc (Nat.le_refl _) _)) (by have := H5.out.1.lt; simp; omega) (some ⟨w5.heap.size, 0, none⟩) 1 1 [⟨tg, B1, n1', k1, B2, n2', k2⟩] (Blk.rdC Try.eN (Blk.new _ _ _) rfl) (fun h => by cases h) (by have := HLN.out; simp; omega) rfl rfl rfl rfl ?_; intro A6 n6 c6 w6 hG; have H6 := Lib.hid hG; have hN6 : Blk w6 N 25 #[.int .i64 48, .slice none 0 0, .slice Ak mk ck] := (((HW.out.2.2.1.turn H5.out.2 (by simp; omega)).alloc _).keep (hG.below.block N (by omega))); have z6 := hN6.cell 2; simp only [List.getElem?_toArray, List.getElem?_cons_succ, List.getElem?_cons_zero] at z6; have f6 := hN6.frozen 2; have HN6 := Lib.hid hN6; clear hG hN6)))
            have hsl := HW.out.2.2.2.2.2.2.2.2.2
            have hll := HW.out.2.2.2.2.2.2.2.2.1
            have hRs := HW.out.2.2.2.2.2.2.1
            have hFrm := HK.out.frm.trans HW.out.2.2.2.2.2.2.2.1
            have hKc : Kb < wc.heap.size := HC.out.2.2.lt
            have hs5 := H5.out.2.size
            have hsa : (w5.alloc (.cells #[.int .i64 tg, .slice B1 n1' k1, .slice B2 n2' k2] 25)).heap.size = w5.heap.size + 1 := by simp
            have hb5 : Below N wc w5 := below_turn (Below.refl N wc) H5.out.2 (fun t ht => by simp at ht; omega) (by omega)
            have hb6 : Below N wc w6 := (hb5.alloc (by omega) _).trans (H6.out.below.mono (by omega))
            have hT7 : Turn [N] w6 (w6.setCell ⟨N, 2, none⟩ (.slice A6 n6 c6)) := (Turn.refl [N] w6).setCell (.inl (by simp)) _
            have hb7 : Below N wc (w6.setCell ⟨N, 2, none⟩ (.slice A6 n6 c6)) := below_turn hb6 hT7 (fun t ht => by simp at ht; omega) (by have := hb6.size; omega)
            have h67 := hT7.size
            have ha6 := H6.out.below.size
            have hkeep : ∀ b, b < wc.heap.size → b ≠ Kb → b ≠ N → (Value.slice Ak mk ck).ownBlock ≠ some b → (w6.setCell ⟨N, 2, none⟩ (.slice A6 n6 c6)).heap[b]? = wc.heap[b]? := fun b h1 h2 h3 h4 =>
              (hT7.block b (by omega) (by simpa using h3)).trans ((H6.out.grown.block b (by omega) (fun e => h4 e.symm)).trans ((Below.heap_alloc w5 _ b (by omega)).trans (H5.out.2.block b h1 (by simpa using h2))))
            have hown2 : ∀ b, b < w5.heap.size → (Value.slice Ak mk ck).ownBlock ≠ some b → (Value.slice A6 n6 c6).ownBlock ≠ some b := fun b h1 h2 e => by
              rcases H6.out.at_ with h3 | h3
              · rw [h3] at e; exact h2 e
              · rw [h3] at e; injection e with e; omega
            have hnh := HL.out.1
            have hrs1 := hRs.1
            have hsl2 := HS.out.2.2
            refine ⟨⟨A3, n3, c3, rs, fu, lf2, kl ++ [k], fl ++ [⟨tg, B1, n1', k1, B2, n2', k2⟩], A6, n6, c6, rfl, ?_⟩, ?_⟩
            · refine ⟨hRs.keep hb7.size (fun a ha => ?_), hFrm, by have := HK.out.fue; simp only [List.length_cons] at this hsl; omega, by have := HL.out.2; simp only [List.length_cons, List.length_append, List.length_nil] at this hsl ⊢; omega, hll.1, by have := HK.out.high; omega, HAns.out, HC.out.1.keep (hb7.block gl (by omega)), HW.out.2.1.keep (hb7.block X (by omega)), ?_, H6.out.own.turn hT7 (fun g hg => by have := (H6.out.own.lt hg).1; simp; omega), by simp [HK.out.lens], ?_, HW.out.1.then_below hb7 (by omega), by omega⟩
              · obtain ⟨ad, e1, e2⟩ := hFrm a ha
                have := HG.out.2 ad e1
                exact hb7.block a.block (by omega)
              · have := HN6.out.set_ 2 (.slice A6 n6 c6)
                simpa using this
              · refine list_snoc HK.out.lens (fun j g k' hg hk => ?_) ?_
                · refine ((HW.out.2.2.2.2.1 j g k' hg hk).keep hb7.size (fun b hb => hkeep b (by have := hb.1.2; omega) (by have := hb.1.2; omega) (by have := hb.1.1; omega) hb.2)).mono (fun b hb => ⟨⟨hb.1.1, by have := hb.1.2; have := hb7.size; omega⟩, hown2 b (by have := hb.1.2; omega) hb.2⟩) (fun _ h => h)
                · have hrow : ∀ b, wk.heap.size ≤ b → (Value.slice Ak mk ck).ownBlock ≠ some b := fun b hb e => by have := (HK.out.own.lt e).2; omega
                  refine (HW.out.2.2.2.2.2.1.keep hb7.size (fun b hb => hkeep b hb.2 (by have := hb.1; omega) (by have := hb.1; omega) (hrow b hb.1))).mono (fun b hb => ⟨⟨by have := hb.1; omega, by have := hb.2; have := hb7.size; omega⟩, hown2 b (by have := hb.2; omega) (hrow b hb.1)⟩) (fun _ h => h)
            · show n3 < nh
              omega
    · rw [if_neg t3] at hans
      have t3d : (tag == 48) = false := by simp [t3]
      have hmb := H1.out.2.2.1.1
      have hcl := clone_own A1 n1 c1 held w2 HF.out.1 (by have := HF.out.1.1; have := HF.out.2.2.2.2; omega)
      have HN := Lib.hid hans
      clear hans
      go_wp2_with fail
      refine hcl.mono ?_
      rintro e w3 ⟨A3, n3, c3, rfl, ho3, hb3⟩
      have hp := plain_any tag A1 n1 c1 held w3 (HF.out.1.below hb3)
      have H3 := Lib.hid (And.intro ho3 (And.intro hb3 (H2.out.2.1.below hb3)))
      obtain ⟨pv, hpv⟩ : ∃ pv, plainOk tag held = pv := ⟨_, rfl⟩
      rw [hpv] at hp
      have HPV := Lib.hid hpv
      clear ho3 hb3 hcl hpv
      go_wp2_with fail
      refine hp.mono ?_
      rintro e w4 ⟨rfl, rfl⟩
      clear hp
      go_wp2_with (refine wpList_store_arr rfl 25 (.tmp 6) (.tmp 47) rfl X 25 _ [.int .i64 tag, .slice A3 n3 c3, .slice none 0 0] H3.out.2.2 rfl rfl (by kernel_rfl) rfl rfl ?_; intro w9 hB9 hT9; have H9 := Lib.hid (And.intro hB9 hT9); clear hB9 hT9)
      try rw [Exit.noGoto_ret]
      refine bodyPost_ret (node_res (f := ⟨tag, A3, n3, c3, none, 0, 0⟩) rfl rfl H9.out.1) rfl ?_
      have hans := HN.out
      rw [HPV.out] at hans
      have hX1 := H2.out.2.2.2
      have hB9 : Blk w9 gl 75 #[.int .i64 (left - 1)] := (H2.out.1.below H3.out.2.1).turn H9.out.2 (by simp; omega)
      have hT9 : Turn [gl] w w9 := (H2.out.2.2.1.trans (Turn.of_below [gl] H3.out.2.1) (fun x hx => .inl hx)).trans H9.out.2 (fun x hx => by simp at hx; subst hx; right; omega)
      cases pv with
      | false =>
        rw [if_neg (by simp)] at hans
        rw [← hans]
        exact ⟨⟨_, A2, n2, c2, rfl⟩, hB9, hT9⟩
      | true =>
        rw [if_pos rfl] at hans
        rw [← hans]
        have ho9 := H3.out.1.turn H9.out.2 (fun g hg => by have := (H3.out.1.lt hg).1; simp; omega)
        have hR9 : Rd w9 A2 n2 c2 rest := (HF.out.2.1.below H3.out.2.1).turn H9.out.2 (fun a ha => by obtain ⟨ad, h1, h2⟩ := HF.out.2.2.2.1 a ha; have := HG.out.2 ad h1; simp; omega)
        refine ⟨⟨⟨tag, A3, n3, c3, none, 0, 0⟩, A2, n2, c2, rfl, ?_, hR9, HF.out.2.2.2.1⟩, hB9, hT9⟩
        exact NdR.mk ⟨tag, A3, n3, c3, none, 0, 0⟩ held [] [] ho9.rd (fun a ha => ⟨by have := ho9.blk_le ha; omega, ho9.rd.lt a ha⟩) ⟨rfl, .inl rfl⟩ (Nat.zero_le _) (fun a ha => by cases ha) (fun h => absurd h t3) rfl (by simp)
end Go.Proofs.Ytgkhhinjdojbhaa
