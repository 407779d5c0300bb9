/-
  The writer of frames: a number in so many bytes; bytes behind their length.
-/
import Derived.Test.YtmanpfenmamflaaOwnR
import Derived.Test.YtmanpfenmamflaaAppK
import Derived.Test.YtmanpfenmamflaaShort
import Derived.StillTailTactics
namespace Go.Proofs.Ytmanpfenmamflaa
open Go.RowKit

theorem region_turn {P : Program} {ops : Array Oper} {Q : Exit → Act → World → Prop} {id : Nat} {a : Act} {w : World} (S : List Nat) (hm : P.follows .mixedOrders = true)
    (h : ∀ wd, Old w wd → Turn S w wd → w.heap.size = wd.heap.size → wpAnyH P .any ops (NoPanic Q) (Turn S w) ops.size (Array.replicate ops.size false) a wd) : (Code.region id ops true).wp P Q a w :=
  wp_region_noPanic (wp_region_held_drew hm (Turn.of_below S (Old.drew (Old.refl w))) (fun hS => h _ (Old.drew (Old.refl w)) hS rfl))
/-- What is in S' is in S, or new. -/
def InOr (S S' : List Nat) (n : Nat) : Prop := ∀ x ∈ S', x ∈ S ∨ n ≤ x
/-- The writer at p holds the bytes l, in the blocks S; bad: something may not be. -/
def Wr (W : World) (p : Nat) (S : List Nat) (l : List UInt8) (bad : Bool) : Prop :=
  ∃ A n c, Blk W p 58 #[.slice A n c, .bool bad] ∧ Own W (p + 1) (.slice A n c) l ∧ S = p :: (Value.slice A n c).ownBlock.toList
theorem Wr.below {W W' : World} {p : Nat} {S : List Nat} {l : List UInt8} {bad : Bool} (h : Wr W p S l bad) (hb : Below W.heap.size W W') : Wr W' p S l bad := by
  obtain ⟨A, n, c, h1, h2, h3⟩ := h
  exact ⟨A, n, c, h1.below hb, h2.below hb, h3⟩
theorem Wr.lt {W : World} {p : Nat} {S : List Nat} {l : List UInt8} {bad : Bool} (h : Wr W p S l bad) : p < W.heap.size := by
  obtain ⟨A, n, c, h1, h2, _⟩ := h
  exact h1.lt
theorem Wr.in_ {W : World} {p : Nat} {S : List Nat} {l : List UInt8} {bad : Bool} (h : Wr W p S l bad) : ∀ x ∈ S, p ≤ x ∧ x < W.heap.size := by
  obtain ⟨A, n, c, h1, h2, rfl⟩ := h
  intro x hx
  rcases List.mem_cons.1 hx with e | e
  · subst e; exact ⟨Nat.le_refl _, h1.lt⟩
  · have := h2.lt (show _ = some x by simpa using e); omega
/-- A number in so many bytes. -/
def num (n size : Nat) : List UInt8 := (bytes64 (UInt64.ofNat n)).drop (8 - size)
theorem num_len (n size : Nat) (h : size ≤ 8) : (num n size).length = size := by unfold num; rw [List.length_drop]; simp [bytes64]; omega
/-- What a number leaves of bytes and of the mark. -/
def putL (l : List UInt8) (n : Int) (size : Nat) (most : Int) : List UInt8 := if n < 0 ∨ most < n then l else l ++ num n.toNat size
def putB (bad : Bool) (n most : Int) : Bool := if n < 0 ∨ most < n then true else bad
set_option maxRecDepth 100000 in
set_option maxHeartbeats 2000000 in
theorem put_any (p : Nat) (n most : Int) (size : Nat) (S : List Nat) (l : List UInt8) (bad : Bool) (w : World) (h : Wr w p S l bad) (hs : size = 1 ∨ size = 2 ∨ size = 4) (hmost : most ≤ 2147483647) (hl : l.length ≤ 1000000000000) :
    Calls Try.prog 22 #[.pointer (some ⟨p, 0, none⟩), .int .i64 n, .int .i64 size, .int .i64 most] w fun e w' => e = .returned (.tuple #[]) ∧ ∃ S', Wr w' p S' (putL l n size most) (putB bad n most) ∧ Turn S w w' ∧ InOr S S' w.heap.size := by
  obtain ⟨A, m, c, hb, ho, rfl⟩ := h
  by_cases hok : n < 0 ∨ most < n
  · have e1 : putL l n size most = l := if_pos hok
    have e2 : putB bad n most = true := if_pos hok
    rw [e1, e2]
    clear e1 e2
    have H := Lib.hid (And.intro hb ho)
    have f1 := hb.frozen 1
    have c1 := hb.cell 1
    simp only [List.getElem?_toArray, List.getElem?_cons_succ, List.getElem?_cons_zero] at c1
    have hfin : ∃ S', Wr (w.setCell ⟨p, 1, none⟩ (.bool true)) p S' l true ∧ Turn (p :: (Value.slice A m c).ownBlock.toList) w (w.setCell ⟨p, 1, none⟩ (.bool true)) ∧ InOr (p :: (Value.slice A m c).ownBlock.toList) S' w.heap.size := by
      have hT := (Turn.refl [p] w).setCell (p := ⟨p, 1, none⟩) (.inl (by simp)) (.bool true)
      refine ⟨_, ⟨A, m, c, H.out.1.set_ 1 _, H.out.2.turn hT (fun g hg hm => ?_), rfl⟩, hT.more (by simp), fun x hx => .inl hx⟩
      have := (H.out.2.lt hg).1
      simp at hm
      omega
    have HF := Lib.hid hfin
    clear hfin hb ho
    rcases Classical.em (n < 0) with h0 | h0
    · have d0 : decide (n < 0) = true := decide_eq_true h0
      clear hok
      go_enter Try.func22, Try.ntmps22
      go_wp2_with fail
      refine bodyPost_ret (results_none rfl _ _ _) rfl ?_
      exact ⟨rfl, HF.out⟩
    · have h1 : most < n := by omega
      have d0 : decide (n < 0) = false := decide_eq_false h0
      have d1 : decide (most < n) = true := decide_eq_true h1
      clear hok
      go_enter Try.func22, Try.ntmps22
      go_wp2_with fail
      refine bodyPost_ret (results_none rfl _ _ _) rfl ?_
      exact ⟨rfl, HF.out⟩
  · have e1 : putL l n size most = l ++ num n.toNat size := if_neg hok
    have e2 : putB bad n most = bad := if_neg hok
    rw [e1, e2]
    clear e1 e2
    obtain ⟨N, rfl⟩ := Int.eq_ofNat_of_zero_le (show 0 ≤ n by omega)
    rw [show ((N : Int)).toNat = N by simp]
    have d0 : decide ((N : Int) < 0) = false := decide_eq_false (by omega)
    have d1 : decide (most < (N : Int)) = false := decide_eq_false (by omega)
    have h0 : ¬ ((N : Int) < 0) := by omega
    have h1 : ¬ (most < (N : Int)) := by omega
    have hN : N ≤ 2147483647 := by omega
    --PUT
    have g1 : IntKind.i64.wrap (8 - (size : Int)) = ((8 - size : Nat) : Int) := by rw [IntWalk.i64_in _ (by omega)]; omega
    have hcv : ∀ w : World, (convert 3 82 (.int .i64 (N : Int))).run Try.prog w = .ok (U64 (UInt64.ofNat N)) w := fun w => by
      rw [conv_int w .u64 Try.underlying3 Try.underlying82, wrap_u64, ← U64_eq (x := UInt64.ofNat N)]
      rw [UInt64.toNat_ofNat']; omega
    have H := Lib.hid (And.intro hb (And.intro ho (And.intro hcv hs)))
    clear hok hb ho hcv
    go_enter Try.func22, Try.ntmps22
    go_wp2_with fail
    refine region_turn (p :: (Value.slice A m c).ownBlock.toList) (by kernel_rfl) (fun wd hOld hHeld hSz => ?_)
    have HO := Lib.hid hOld
    clear hOld hSz
    have c0 : wd.cell? ⟨p, 0, none⟩ = some (.slice A m c) := by rw [(H.out.1.below HO.out).cell 0]; rfl
    have f0 := (H.out.1.below HO.out).frozen 0
    refine takeL (i := 0) (v := ?_) rfl (by kernel_rfl) (by kernel_rfl) (by kernel_rfl) (fun _ _ _ h => h) (Or.inl ⟨by rfl, ?_⟩) hHeld ?_
    rotate_left
    focus (intro wq hSw; clear hSw; go_simp; try with_reducible rfl)
    try simp only [Act.put, List.setIfInBounds_toArray, List.set_cons_zero, List.set_cons_succ]
    refine takeL (i := 1) (v := ?_) rfl (by kernel_rfl) (by kernel_rfl) (by kernel_rfl) (fun _ _ _ h => h) (Or.inl ⟨by rfl, ?_⟩) hHeld ?_
    rotate_left
    focus (intro wq hSw; clear hSw; go_simp; try with_reducible rfl)
    try simp only [Act.put, List.setIfInBounds_toArray, List.set_cons_zero, List.set_cons_succ]
    refine takeL (i := 2) (v := ?_) rfl (by kernel_rfl) (by kernel_rfl) (by kernel_rfl) (fun _ _ _ h => h) (Or.inl ⟨by rfl, ?_⟩) hHeld ?_
    rotate_left
    focus (intro wq hSw; clear hSw; go_simp; try with_reducible rfl)
    try simp only [Act.put, List.setIfInBounds_toArray, List.set_cons_zero, List.set_cons_succ]
    refine takeL (i := 3) (v := ?_) rfl (by kernel_rfl) (by kernel_rfl) (by kernel_rfl) (fun _ _ _ h => h) (Or.inl ⟨by rfl, ?_⟩) hHeld ?_
    rotate_left
    focus (intro wq hSw; clear hSw; go_simp; try with_reducible rfl)
    try simp only [Act.put, List.setIfInBounds_toArray, List.set_cons_zero, List.set_cons_succ]
    refine takeL (i := 5) (v := ?_) rfl (by kernel_rfl) (by kernel_rfl) (by kernel_rfl) (fun _ _ _ h => h) (Or.inl ⟨by rfl, ?_⟩) hHeld ?_
    rotate_left
    focus (intro wq hSw; clear hSw; go_simp; try with_reducible rfl)
    try simp only [Act.put, List.setIfInBounds_toArray, List.set_cons_zero, List.set_cons_succ]
    refine takeL (i := 6) (v := ?_) rfl (by kernel_rfl) (by kernel_rfl) (by kernel_rfl) (fun _ _ _ h => h) (Or.inl ⟨by rfl, ?_⟩) hHeld ?_
    rotate_left
    focus (intro wq hSw; have hRun := H.out.2.2.1 wq; clear hSw; go_simp; try with_reducible rfl)
    try simp only [Act.put, List.setIfInBounds_toArray, List.set_cons_zero, List.set_cons_succ]
    refine takeL (i := 8) (v := ?_) rfl (by kernel_rfl) (by kernel_rfl) (by kernel_rfl) (fun _ _ _ h => h) (Or.inl ⟨by rfl, ?_⟩) hHeld ?_
    rotate_left
    focus (intro wq hSw; clear hSw; go_simp; try with_reducible rfl)
    try simp only [Act.put, List.setIfInBounds_toArray, List.set_cons_zero, List.set_cons_succ]
    refine takeL (i := 9) (v := ?_) rfl (by kernel_rfl) (by kernel_rfl) (by kernel_rfl) (fun _ _ _ h => h) (Or.inl ⟨by rfl, ?_⟩) hHeld ?_
    rotate_left
    focus (intro wq hSw; clear hSw; go_simp; try with_reducible rfl)
    try simp only [Act.put, List.setIfInBounds_toArray, List.set_cons_zero, List.set_cons_succ]
    refine wpAnyH_ready (rs := [4, 7]) (by kernel_rfl) (by simp) ?_
    refine consL rfl (fun K hK => ?_) (consL rfl (fun K hK => ?_) AllReadyH.nil)
    · go_simp
      refine hK.out _ _ hHeld (fun hHeld => ?_)
      clear hK K c0
      try simp only [Act.put, List.setIfInBounds_toArray, List.set_cons_zero, List.set_cons_succ]
      refine wpAnyH_ready (rs := [7]) (by kernel_rfl) (by simp) ?_
      refine consL rfl (fun K hK => ?_) AllReadyH.nil
      go_simp
      refine (append64_any (.slice none 0 0) (UInt64.ofNat N) [] wd wd.heap.size (Own.nil _ _) (Nat.le_refl _) (by simp)).mono ?_
      rintro e w1 ⟨v1, rfl, hv1, hT1, _⟩
      have hb1 : Below wd.heap.size wd w1 := Turn.below hT1
      have hz1 := hHeld.trans hT1 (fun x hx => by simp [Value.ownBlock] at hx)
      refine hK.out _ _ hz1 (fun hHeld => ?_)
      clear hK K hT1 hz1
      try simp only [Act.put, List.setIfInBounds_toArray, List.set_cons_zero, List.set_cons_succ]
      have HB1 := Lib.hid (And.intro hb1 (HO.out.trans hb1))
      rw [List.nil_append] at hv1
      obtain ⟨A1, k1, rfl, hr1, ha1⟩ := hv1.shape
      have hn1 : (bytes64 (UInt64.ofNat N)).length = 8 := rfl
      rw [hn1] at hr1
      rw [hn1]
      obtain ⟨A2, n2, k2, hn2, hsl, hr2, hA2⟩ := Rd.cut_ex2 hr1 (k := 8 - size) (by omega)
      have hn2s : n2 = size := by have := H.out.2.2.2; omega
      subst hn2s
      have Hsl := Lib.hid (And.intro hsl (And.intro hr2 hn2))
      clear hsl hr2 hn2 hn1 hv1 ha1 hb1 hA2 hr1
      refine takeL (i := 10) (v := ?_) rfl (by kernel_rfl) (by kernel_rfl) (by kernel_rfl) (fun _ _ _ h => h) (Or.inl ⟨by rfl, ?_⟩) hHeld ?_
      rotate_left
      focus (intro wq hSw; have hRun := Hsl.out.1 wq; clear hSw; go_simp; try with_reducible rfl)
      try simp only [Act.put, List.setIfInBounds_toArray, List.set_cons_zero, List.set_cons_succ]
      refine wpAnyH_ready (rs := [11]) (by kernel_rfl) (by simp) ?_
      refine consL rfl (fun K hK => ?_) AllReadyH.nil
      rw [if_pos (by rfl)]
      refine op_app_keep2 (.tmp 22) (.tmp 28) rfl (p + 1) (.slice A m c) l rfl (H.out.2.1.below HB1.out.2) A2 n2 k2 (num N n2) rfl Hsl.out.2.1 (by rw [num_len _ _ (by omega)]; omega) (by have := (H.out.1.below HB1.out.2).lt; omega) ?_
      intro A8 n8 c8 w8 hO8 hOl hg8 hb9
      have hz8 := hHeld.grown hg8 (fun k hk => .inl (by rw [hk]; simp))
      have hB8 : Blk w8 p 58 #[.slice A m c, .bool bad] := Blk.keep (H.out.1.below HB1.out.2) (hg8.block _ (H.out.1.below HB1.out.2).lt (fun e => by have := (H.out.2.1.lt e.symm).1; omega))
      refine hK.out _ _ hz8 (fun hHeld => ?_)
      have hs9 := HB1.out.2.size
      have hb9' : ∀ x ∈ (Value.slice A8 n8 c8).ownBlock.toList, x ∈ (Value.slice A m c).ownBlock.toList ∨ w.heap.size ≤ x := fun x hx => by
        have hx' : (Value.slice A8 n8 c8).ownBlock = some x := by simpa using hx
        rcases hb9 with e | e
        · left; rw [← e]; exact hx
        · right; rw [e] at hx'; cases hx'; exact hs9
      clear hK K hz8 hg8 hOl hb9 hs9
      try simp only [Act.put, List.setIfInBounds_toArray, List.set_cons_zero, List.set_cons_succ]
      have H8 := Lib.hid (And.intro hO8 (And.intro hB8 hb9'))
      clear hO8 hB8 hb9'
      refine takeL (i := 12) (v := ?_) rfl (by kernel_rfl) (by kernel_rfl) (by kernel_rfl) (fun _ _ _ h => h) (Or.inl ⟨by rfl, ?_⟩) hHeld ?_
      rotate_left
      focus (intro wq hSw; clear hSw; go_simp; try with_reducible rfl)
      try simp only [Act.put, List.setIfInBounds_toArray, List.set_cons_zero, List.set_cons_succ]
      refine takeL (i := 13) (v := ?_) rfl (by kernel_rfl) (by kernel_rfl) (by kernel_rfl) (fun _ _ _ h => h) (Or.inl ⟨by rfl, ?_⟩) hHeld ?_
      rotate_left
      focus (intro wq hSw; clear hSw; go_simp; try with_reducible rfl)
      try simp only [Act.put, List.setIfInBounds_toArray, List.set_cons_zero, List.set_cons_succ]
      have f8 := H8.out.2.1.frozen 0
      have c8 := H8.out.2.1.cell 0
      simp only [List.getElem?_toArray, List.getElem?_cons_zero] at c8
      refine wpAnyH_ready (rs := [14]) (by kernel_rfl) (by simp) ?_
      refine consL rfl (fun K hK => ?_) AllReadyH.nil
      go_simp
      refine hK.out _ _ (hHeld.setCell (.inl (by simp)) _) (fun hHeld => ?_)
      clear hK K
      try simp only [Act.put, List.setIfInBounds_toArray, List.set_cons_zero, List.set_cons_succ]
      refine wpAnyH_done (by kernel_rfl) ?_ _
      refine NoPanic.normal ?_
      have HH := Lib.hid hHeld
      clear hHeld f8 c8 f0
      go_wp2_with fail
      go_end0
      refine ⟨rfl, _, ⟨A8, n8, c8, H8.out.2.1.set_ 0 _, H8.out.1.turn ((Turn.refl [p] w8).setCell (p := ⟨p, 0, none⟩) (.inl (by simp)) _) (fun g hg hm => ?_), rfl⟩, HH.out, fun x hx => ?_⟩
      · have := (H8.out.1.lt hg).1; simp at hm; omega
      · rcases List.mem_cons.1 hx with e | e
        · exact .inl (by rw [e]; simp)
        · exact (H8.out.2.2 x e).imp (fun h => by simp [h]) id
    · go_simp
      refine (append64_any (.slice none 0 0) (UInt64.ofNat N) [] wd wd.heap.size (Own.nil _ _) (Nat.le_refl _) (by simp)).mono ?_
      rintro e w1 ⟨v1, rfl, hv1, hT1, _⟩
      have hb1 : Below wd.heap.size wd w1 := Turn.below hT1
      have hz1 := hHeld.trans hT1 (fun x hx => by simp [Value.ownBlock] at hx)
      refine hK.out _ _ hz1 (fun hHeld => ?_)
      clear hK K hT1 hz1
      try simp only [Act.put, List.setIfInBounds_toArray, List.set_cons_zero, List.set_cons_succ]
      have HB1 := Lib.hid (And.intro hb1 (HO.out.trans hb1))
      rw [List.nil_append] at hv1
      obtain ⟨A1, k1, rfl, hr1, ha1⟩ := hv1.shape
      have hn1 : (bytes64 (UInt64.ofNat N)).length = 8 := rfl
      rw [hn1] at hr1
      rw [hn1]
      obtain ⟨A2, n2, k2, hn2, hsl, hr2, hA2⟩ := Rd.cut_ex2 hr1 (k := 8 - size) (by omega)
      have hn2s : n2 = size := by have := H.out.2.2.2; omega
      subst hn2s
      have Hsl := Lib.hid (And.intro hsl (And.intro hr2 hn2))
      clear hsl hr2 hn2 hn1 hv1 ha1 hb1 hA2 hr1
      refine takeL (i := 10) (v := ?_) rfl (by kernel_rfl) (by kernel_rfl) (by kernel_rfl) (fun _ _ _ h => h) (Or.inl ⟨by rfl, ?_⟩) hHeld ?_
      rotate_left
      focus (intro wq hSw; have hRun := Hsl.out.1 wq; clear hSw; go_simp; try with_reducible rfl)
      try simp only [Act.put, List.setIfInBounds_toArray, List.set_cons_zero, List.set_cons_succ]
      have c0 : w1.cell? ⟨p, 0, none⟩ = some (.slice A m c) := by rw [(H.out.1.below HB1.out.2).cell 0]; rfl
      refine wpAnyH_ready (rs := [4]) (by kernel_rfl) (by simp) ?_
      refine consL rfl (fun K hK => ?_) AllReadyH.nil
      go_simp
      refine hK.out _ _ hHeld (fun hHeld => ?_)
      clear hK K c0
      try simp only [Act.put, List.setIfInBounds_toArray, List.set_cons_zero, List.set_cons_succ]
      refine wpAnyH_ready (rs := [11]) (by kernel_rfl) (by simp) ?_
      refine consL rfl (fun K hK => ?_) AllReadyH.nil
      rw [if_pos (by rfl)]
      refine op_app_keep2 (.tmp 22) (.tmp 28) rfl (p + 1) (.slice A m c) l rfl (H.out.2.1.below HB1.out.2) A2 n2 k2 (num N n2) rfl Hsl.out.2.1 (by rw [num_len _ _ (by omega)]; omega) (by have := (H.out.1.below HB1.out.2).lt; omega) ?_
      intro A8 n8 c8 w8 hO8 hOl hg8 hb9
      have hz8 := hHeld.grown hg8 (fun k hk => .inl (by rw [hk]; simp))
      have hB8 : Blk w8 p 58 #[.slice A m c, .bool bad] := Blk.keep (H.out.1.below HB1.out.2) (hg8.block _ (H.out.1.below HB1.out.2).lt (fun e => by have := (H.out.2.1.lt e.symm).1; omega))
      refine hK.out _ _ hz8 (fun hHeld => ?_)
      have hs9 := HB1.out.2.size
      have hb9' : ∀ x ∈ (Value.slice A8 n8 c8).ownBlock.toList, x ∈ (Value.slice A m c).ownBlock.toList ∨ w.heap.size ≤ x := fun x hx => by
        have hx' : (Value.slice A8 n8 c8).ownBlock = some x := by simpa using hx
        rcases hb9 with e | e
        · left; rw [← e]; exact hx
        · right; rw [e] at hx'; cases hx'; exact hs9
      clear hK K hz8 hg8 hOl hb9 hs9
      try simp only [Act.put, List.setIfInBounds_toArray, List.set_cons_zero, List.set_cons_succ]
      have H8 := Lib.hid (And.intro hO8 (And.intro hB8 hb9'))
      clear hO8 hB8 hb9'
      refine takeL (i := 12) (v := ?_) rfl (by kernel_rfl) (by kernel_rfl) (by kernel_rfl) (fun _ _ _ h => h) (Or.inl ⟨by rfl, ?_⟩) hHeld ?_
      rotate_left
      focus (intro wq hSw; clear hSw; go_simp; try with_reducible rfl)
      try simp only [Act.put, List.setIfInBounds_toArray, List.set_cons_zero, List.set_cons_succ]
      refine takeL (i := 13) (v := ?_) rfl (by kernel_rfl) (by kernel_rfl) (by kernel_rfl) (fun _ _ _ h => h) (Or.inl ⟨by rfl, ?_⟩) hHeld ?_
      rotate_left
      focus (intro wq hSw; clear hSw; go_simp; try with_reducible rfl)
      try simp only [Act.put, List.setIfInBounds_toArray, List.set_cons_zero, List.set_cons_succ]
      have f8 := H8.out.2.1.frozen 0
      have c8 := H8.out.2.1.cell 0
      simp only [List.getElem?_toArray, List.getElem?_cons_zero] at c8
      refine wpAnyH_ready (rs := [14]) (by kernel_rfl) (by simp) ?_
      refine consL rfl (fun K hK => ?_) AllReadyH.nil
      go_simp
      refine hK.out _ _ (hHeld.setCell (.inl (by simp)) _) (fun hHeld => ?_)
      clear hK K
      try simp only [Act.put, List.setIfInBounds_toArray, List.set_cons_zero, List.set_cons_succ]
      refine wpAnyH_done (by kernel_rfl) ?_ _
      refine NoPanic.normal ?_
      have HH := Lib.hid hHeld
      clear hHeld f8 c8 f0
      go_wp2_with fail
      go_end0
      refine ⟨rfl, _, ⟨A8, n8, c8, H8.out.2.1.set_ 0 _, H8.out.1.turn ((Turn.refl [p] w8).setCell (p := ⟨p, 0, none⟩) (.inl (by simp)) _) (fun g hg hm => ?_), rfl⟩, HH.out, fun x hx => ?_⟩
      · have := (H8.out.1.lt hg).1; simp at hm; omega
      · rcases List.mem_cons.1 hx with e | e
        · exact .inl (by rw [e]; simp)
        · exact (H8.out.2.2 x e).imp (fun h => by simp [h]) id
    --PUTEND
end Go.Proofs.Ytmanpfenmamflaa
