/-
  The law RpcNext: frames are taken off any bytes.
-/
import Derived.Test.YtmanpfenmamflaaRpcS5
import Derived.Test.YtmanpfenmamflaaRpcN1
import Derived.Test.YtmanpfenmamflaaOpenCs
import Derived.Test.YtmanpfenmamflaaRange2
import Derived.RangeFuncLeaves
namespace Go.Proofs.Ytmanpfenmamflaa
open Go.RowKit

theorem fr_len {s : Option (List UInt8)} {f : List UInt8} (h : frameO s = some f) : f.length ≤ 300000 := by
  unfold frameO at h
  cases s with
  | none => cases h
  | some y =>
    rw [Option.bind_some] at h
    split at h
    · cases h
    · injection h with h; rw [← h, List.length_append, num_len _ _ (by omega)]; omega
theorem len_sum {a b k : Nat} (h1 : a ≤ k * 300000) (h2 : b ≤ 300000) (hk : k ≤ 5) : a + b ≤ 140737488351232 := by
  have := Nat.mul_le_mul_right 300000 hk
  omega
/-- The law's variables: how many are asked for, the result, begun's word, the bytes. -/
structure NxI (w : World) (X I : Nat) (most : Int) (A : Option Addr) (n c : Nat) (bs : List UInt8) (W : World) : Prop where
  b0 : Blk W X 3 #[.int .i64 most]
  b1 : Blk W (X + 1) 4 #[.bool false]
  b2 : Blk W I 4 #[.bool true]
  b3 : Blk W (I + 1) 22 #[.slice A n c]
  own : Own W (I + 2) (.slice A n c) bs
  old : Below X w W
  le : X + 2 ≤ I
section
variable {w : World} {X I : Nat} {most : Int} {A : Option Addr} {n c : Nat} {bs : List UInt8} {W W' : World}
theorem NxI.below (h : NxI w X I most A n c bs W) (hb : Below W.heap.size W W') : NxI w X I most A n c bs W' :=
  ⟨h.b0.below hb, h.b1.below hb, h.b2.below hb, h.b3.below hb, h.own.below hb, h.old.trans (hb.mono (by have := h.b0.lt; omega)), h.le⟩
theorem NxI.sz (h : NxI w X I most A n c bs W) : I + 2 ≤ W.heap.size := h.b3.lt
theorem NxI.app (h : NxI w X I most A n c bs W) {A' : Option Addr} {n' c' : Nat} {bs' : List UInt8} (hg : Grew (I + 2) W W' (.slice A n c) A' n' c' bs') : NxI w X I most A' n' c' bs' (W'.setCell ⟨I + 1, 0, none⟩ (.slice A' n' c')) := by
  have hsz := h.sz
  have hle := h.le
  have hk : ∀ k, k < I + 2 → W'.heap[k]? = W.heap[k]? := fun k hk => hg.below.block k hk
  have hT := (Turn.refl [I + 1] W').setCell (p := ⟨I + 1, 0, none⟩) (.inl (by simp)) (.slice A' n' c')
  refine ⟨(h.b0.keep (hk X (by omega))).turn hT (by simp; omega), (h.b1.keep (hk _ (by omega))).turn hT (by simp; omega), (h.b2.keep (hk _ (by omega))).turn hT (by simp), ?_, hg.own.turn hT (fun g hgg hm => by have := (hg.own.lt hgg).1; simp at hm; omega), below_turn (h.old.trans (hg.below.mono (by omega))) hT (by simp; omega) (by have := hg.below.size; omega), hle⟩
  exact (h.b3.keep (hk _ (by omega))).set_ 0 _
end
theorem nxK_no {l : List UInt8} (h : nxK l = false) : nxN l = 0 := by
  unfold nxK at h
  unfold nxN
  split at h
  · cases h
  · rename_i h1
    rw [if_neg h1]
    split at h
    · rename_i h2
      rw [if_pos h2]
    · cases h
/-- What stands between two rounds. -/
structure RgI (w : World) (X I : Nat) (most : Int) (A : Option Addr) (n c : Nat) (bs : List UInt8) (P B : Nat) (av se : Int) (W : World) : Prop where
  hn : NxI w X I most A n c bs W
  hp : Blk W P 3 #[.int .i64 av]
  hs : Blk W (P + 1) 3 #[.int .i64 se]
  hg : ∀ g, (Value.slice A n c).ownBlock = some g → g < B
  lo : I + 2 ≤ P
  hi : P + 2 ≤ B
section
variable {w : World} {X I : Nat} {most : Int} {A : Option Addr} {n c : Nat} {bs : List UInt8} {P B : Nat} {av se : Int} {W W' : World} {S : List Nat}
theorem RgI.turn (h : RgI w X I most A n c bs P B av se W) (ht : Turn S W W') (hS : ∀ t ∈ S, B ≤ t) : RgI w X I most A n c bs P B av se W' := by
  have hle := h.hn.le
  have hlo := h.lo
  have hhi := h.hi
  have hX := h.hn.b0.lt
  have no : ∀ x, x < B → x ∉ S := fun x hx hm => by have := hS x hm; omega
  exact ⟨⟨h.hn.b0.turn ht (no _ (by omega)), h.hn.b1.turn ht (no _ (by omega)), h.hn.b2.turn ht (no _ (by omega)), h.hn.b3.turn ht (no _ (by omega)), h.hn.own.turn ht (fun g hg => no g (h.hg g hg)), below_turn h.hn.old ht (fun t ht => by have := hS t ht; omega) (by omega), hle⟩, h.hp.turn ht (no _ (by omega)), h.hs.turn ht (no _ (by omega)), h.hg, hlo, hhi⟩
theorem RgI.step (h : RgI w X I most A n c bs P B av se W) (a' s' : Int) : Turn [P, P + 1] W ((W.setCell ⟨P, 0, none⟩ (.int .i64 a')).setCell ⟨P + 1, 0, none⟩ (.int .i64 s')) ∧ RgI w X I most A n c bs P B a' s' ((W.setCell ⟨P, 0, none⟩ (.int .i64 a')).setCell ⟨P + 1, 0, none⟩ (.int .i64 s')) := by
  have hle := h.hn.le
  have hlo := h.lo
  have hhi := h.hi
  have hX := h.hn.b0.lt
  have hT : Turn [P, P + 1] W ((W.setCell ⟨P, 0, none⟩ (.int .i64 a')).setCell ⟨P + 1, 0, none⟩ (.int .i64 s')) := ((Turn.refl _ _).setCell (.inl (by simp)) _).setCell (.inl (by simp)) _
  refine ⟨hT, ⟨⟨h.hn.b0.turn hT (by simp; omega), h.hn.b1.turn hT (by simp; omega), h.hn.b2.turn hT (by simp; omega), h.hn.b3.turn hT (by simp; omega), h.hn.own.turn hT (fun g hg hm => ?_), below_turn h.hn.old hT (by simp; omega) (by omega), hle⟩, (h.hp.set_ 0 _).far (by simp) _, (h.hs.far (by simp) _).set_ 0 _, h.hg, hlo, hhi⟩⟩
  simp at hm
  rcases hm with rfl | rfl
  · exact h.hn.own.ne h.hp (by decide) hg
  · exact h.hn.own.ne h.hs (by decide) hg
theorem RgI.last (h : RgI w X I most A n c bs P B av se W) : Turn [X + 1] W (W.setCell ⟨X + 1, 0, none⟩ (.bool true)) ∧ Blk (W.setCell ⟨X + 1, 0, none⟩ (.bool true)) (X + 1) 4 #[.bool true] ∧ Below X w (W.setCell ⟨X + 1, 0, none⟩ (.bool true)) := by
  have hX := h.hn.b0.lt
  have hT : Turn [X + 1] W (W.setCell ⟨X + 1, 0, none⟩ (.bool true)) := (Turn.refl _ _).setCell (.inl (by simp)) _
  exact ⟨hT, h.hn.b1.set_ 0 _, below_turn h.hn.old hT (by simp) (by omega)⟩
end
attribute [local go_sem] Oper.semAt_some
set_option maxRecDepth 100000 in
set_option maxHeartbeats 4000000 in
theorem rpcNext_any (A : Option Addr) (m c : Nat) (ls : List PCall) (A1 : Option Addr) (m1 c1 : Nat) (l1 : List UInt8) (most : Int) (w : World) (h : CallsAt w w.heap.size A m ls) (hm63 : m ≤ maxLen) (h1 : Rd w A1 m1 c1 l1) :
    Calls Try.prog 4 #[.slice A m c, .slice A1 m1 c1, .int .i64 most] w fun r w' => r = .returned (.bool true) ∧ Below w.heap.size w w' := by
  obtain ⟨X, hX⟩ : ∃ X, w.heap.size = X := ⟨_, rfl⟩
  have hml := h.1
  unfold maxLen at hm63
  have HX := Lib.hid (And.intro h (And.intro h1 (And.intro hX hml)))
  clear h h1 hml hX
  refine calls_of_marks Try.func4 rfl ?_
  simp only [Try.ntmps4, List.size_toArray, List.length_cons, List.length_nil, Nat.reduceAdd, Nat.reduceSub, Array.replicate_succ, Array.replicate_zero, List.push_toArray, List.append_toArray, List.nil_append, List.cons_append]
  go_wp2_with fail
  obtain ⟨wA, hwA⟩ : ∃ wA, (w.alloc (.cells #[.int .i64 most] 3)).alloc (.cells #[.bool false] 4) = wA := ⟨_, rfl⟩
  have b0 : Blk wA X 3 #[.int .i64 most] := by rw [← hwA, ← HX.out.2.2.1]; exact (Blk.new _ _ _).alloc _
  have b1 : Blk wA (X + 1) 4 #[.bool false] := by
    rw [← hwA, ← HX.out.2.2.1]
    have := Blk.new (w.alloc (.cells #[.int .i64 most] 3)) 4 #[.bool false]
    rwa [show (w.alloc (.cells #[.int .i64 most] 3)).heap.size = w.heap.size + 1 by simp] at this
  have hbA : Below X w wA := by rw [← hwA, ← HX.out.2.2.1]; exact ((Below.refl _ _).alloc (Nat.le_refl _) _).alloc (by simp) _
  have hsA : wA.heap.size = X + 2 := by rw [← hwA, ← HX.out.2.2.1]; simp
  rw [hwA]
  have hXw := HX.out.2.2.1
  rw [hXw]
  have HA := Lib.hid (And.intro b0 (And.intro b1 (And.intro hbA hsA)))
  clear hwA b0 b1 hbA hsA hXw
  refine (begun_any wA).mono ?_
  rintro r1 w1 ⟨rfl, hb1⟩
  have H1 := Lib.hid hb1
  clear hb1
  go_wp2_with fail
  obtain ⟨I, hI⟩ : ∃ I, w1.heap.size = I := ⟨_, rfl⟩
  obtain ⟨wB, hwB⟩ : ∃ wB, (w1.alloc (.cells #[.bool true] 4)).alloc (.cells #[.slice none 0 0] 22) = wB := ⟨_, rfl⟩
  have hbB : Below w1.heap.size w1 wB := by rw [← hwB]; exact ((Below.refl _ _).alloc (Nat.le_refl _) _).alloc (by simp) _
  have hs1 := H1.out.size
  have hNI : NxI w X I most none 0 0 [] wB := by
    have h0 := HA.out.2.2.2
    refine ⟨(HA.out.1.below H1.out).below hbB, (HA.out.2.1.below H1.out).below hbB, ?_, ?_, Own.nil _ _, (HA.out.2.2.1.trans (H1.out.mono (by omega))).trans (hbB.mono (by omega)), by omega⟩
    · rw [← hwB, ← hI]; exact (Blk.new _ _ _).alloc _
    · rw [← hwB, ← hI]
      have := Blk.new (w1.alloc (.cells #[.bool true] 4)) 22 #[.slice none 0 0]
      rwa [show (w1.alloc (.cells #[.bool true] 4)).heap.size = w1.heap.size + 1 by simp] at this
  rw [hwB, hI]
  have HNI := Lib.hid hNI
  clear hwB hbB hs1 hNI hI
  go_loopw [9] (fun kk wr => ∃ k : Nat, k ≤ m ∧ k ≤ 5 ∧ kk = .int .i64 (k : Int) ∧ ∃ Ab nb cb bs, NxI w X I most Ab nb cb bs wr ∧ bs.length ≤ k * 300000) (fun kk _ => 5 - (intOf kk).toNat)
  case atStart => exact ⟨0, by omega, by omega, rfl, none, 0, 0, [], HNI.out, by simp⟩
  case round =>
    obtain ⟨k, hk, hk5, rfl, Ab, nb, cb, bs, hN, hlen⟩ := hrel
    by_cases hlt : k < m ∧ k < 5
    · have hlti : (k : Int) < m := by omega
      have hltd : decide ((k : Int) < m) = true := decide_eq_true hlti
      have hltj : (k : Int) < 5 := by omega
      have hltk : decide ((k : Int) < 5) = true := decide_eq_true hltj
      have hk0 : ¬ ((k : Int) < 0) := by omega
      obtain ⟨pc, hpc⟩ : ∃ pc, ls[k]? = some pc := ⟨_, List.getElem?_eq_getElem (by have := HX.out.2.2.2; omega)⟩
      have hcs : CallsAt wr X A m ls := by
        have := HX.out.1
        rw [HX.out.2.2.1] at this
        exact this.old hN.old
      obtain ⟨_, h2 | ⟨b, off, rfl, h3, h3', h4⟩⟩ := hcs
      · omega
      obtain ⟨p, d, e, t, u, g0, g1⟩ := h4 k pc hpc
      have q0 := g0 0 _ rfl
      have q1 := g0 1 _ rfl
      have q2 := g0 2 _ rfl
      have q3 := g0 3 _ rfl
      have q4 := g0 4 _ rfl
      have q5 := g0 5 _ rfl
      have q6 := g0 6 _ rfl
      have q7 := g0 7 _ rfl
      have q8 := g0 8 _ rfl
      have q9 := g0 9 _ rfl
      have q10 := g0 10 _ rfl
      rw [Nat.add_zero] at q0
      have hsz := hN.sz
      have hle := hN.le
      have hcut := cut25_any pc p d e t u X wr (by omega) g1
      obtain ⟨C, hC⟩ : ∃ C, cutC pc = C := ⟨_, rfl⟩
      rw [hC] at hcut
      unfold callV at hcut
      have HC := Lib.hid hcut
      have HN := Lib.hid (And.intro hN hlen)
      clear h4 g0 g1 hpc hcut hC hN hlen
      go_wp2_with fail
      refine HC.out.mono ?_
      rintro r2 w2 ⟨p', d', e', t', u', rfl, hkk, hb2⟩
      have hI2 : CallIs w2 w2.heap.size C p' d' e' t' u' := hkk X w2 (Nat.le_refl _) (by omega) (Turn.refl _ _)
      have hrc := rcall_any C p' d' e' t' u' w2 hI2
      unfold callV at hrc
      have H2 := Lib.hid (And.intro hrc (HN.out.1.below hb2))
      clear hkk hb2 hI2 hrc q0 q1 q2 q3 q4 q5 q6 q7 q8 q9 q10
      go_wp2_with fail
      refine H2.out.1.mono ?_
      rintro r3 w3 ⟨hb3, hres⟩
      have H3 := Lib.hid (H2.out.2.below hb3)
      clear hb3
      rcases hres with ⟨hn, rfl⟩ | ⟨f, hf, A4, n4, c4, rfl, hO4⟩
      · clear hn
        go_wp2_with fail
        go_roundw
        case measure => simp [intOf]; omega
        exact ⟨k + 1, by omega, by omega, by simp, Ab, nb, cb, bs, H3.out, Nat.le_trans HN.out.2 (Nat.mul_le_mul_right _ (Nat.le_succ k))⟩
      · have c3 := H3.out.b3.cell 0
        simp only [List.getElem?_toArray, List.getElem?_cons_zero] at c3
        have hfl := fr_len hf
        have H4 := Lib.hid (And.intro hO4 hfl)
        clear hf hO4 hfl
        go_wp2_with (at_builtin; go_must (refine wp_app2 (.tmp 47) (.tmp 48) (I + 2) (.slice Ab nb cb) bs H3.out.own H3.out.sz A4 n4 c4 f H4.out.1.rd (len_sum HN.out.2 H4.out.2 hk5) rfl rfl rfl rfl ?_); intro A5 n5 c5 w5 hi5 hG; have H5 := Lib.hid hG; have k5 : w5.cell? ⟨I + 1, 0, none⟩ = some (.slice Ab nb cb) := (hG.below.cell (p := ⟨I + 1, 0, none⟩) (by simp)).trans c3; have f5 : w5.frozen? ⟨I + 1, 0, none⟩ = false := (H3.out.b3.keep (hG.below.block _ (by omega))).frozen 0; clear hG)
        go_roundw
        case measure => simp [intOf]; omega
        exact ⟨k + 1, by omega, by omega, by simp, A5, n5, c5, _, H3.out.app H5.out, by rw [List.length_append, Nat.add_mul, Nat.one_mul]; exact Nat.add_le_add HN.out.2 H4.out.2⟩
    · have HN := Lib.hid (And.intro hN hlen)
      have c3 := hN.b3.cell 0
      simp only [List.getElem?_toArray, List.getElem?_cons_zero] at c3
      clear hN hlen
      by_cases h5 : k < m
      · have hk5' : k = 5 := by omega
        have hlti : (k : Int) < m := by omega
        have hltd : decide ((k : Int) < m) = true := decide_eq_true hlti
        have hltj : ¬ (k : Int) < 5 := by omega
        have hltk : decide ((k : Int) < 5) = false := decide_eq_false hltj
        clear hk5'
        go_wp2_with fail
        have hLl := Lib.hid (len_sum HN.out.2 (show (l1.take 60).length ≤ 300000 by rw [List.length_take]; omega) hk5)
        refine region_turn ((I + 1) :: (Value.slice Ab nb cb).ownBlock.toList) (by kernel_rfl) (fun wd hOld hHeld hSz => ?_)
        have hNd : NxI w X I most Ab nb cb bs wd := HN.out.1.below hOld
        have hrm : Rd wd A1 m1 c1 l1 := HX.out.2.1.below (by have := hNd.old; rwa [← HX.out.2.2.1] at this)
        have c0 := hNd.b3.cell 0
        simp only [List.getElem?_toArray, List.getElem?_cons_zero] at c0
        have HD := Lib.hid (And.intro hNd (And.intro hrm hOld))
        clear hNd hrm hOld hSz c3
        refine takeL (i := 1) (v := ?_) rfl (by kernel_rfl) (by kernel_rfl) (by kernel_rfl) (fun _ _ _ h => h) (Or.inl ⟨by rfl, ?_⟩) hHeld ?_
        rotate_left
        focus (intro wq hSw; clear hSw; go_simp; try with_reducible rfl)
        try simp only [Act.put, List.setIfInBounds_toArray, List.set_cons_zero, List.set_cons_succ]
        refine wpAnyH_ready (rs := [0, 2]) (by kernel_rfl) (by simp) ?_
        refine consL rfl (fun K hK => ?_) (consL rfl (fun K hK => ?_) AllReadyH.nil)
        · go_simp
          refine hK.out _ _ hHeld (fun hHeld => ?_)
          clear hK K
          try simp only [Act.put, List.setIfInBounds_toArray, List.set_cons_zero, List.set_cons_succ]
          refine wpAnyH_ready (rs := [2]) (by kernel_rfl) (by simp) ?_
          refine consL rfl (fun K hK => ?_) AllReadyH.nil
          go_simp
          refine (short_any A1 m1 c1 60 l1 wd HD.out.2.1 (by omega)).mono ?_
          rintro e8 w8 ⟨rfl, rfl⟩
          refine hK.out _ _ hHeld (fun hHeld => ?_)
          clear hK K
          try simp only [Act.put, List.setIfInBounds_toArray, List.set_cons_zero, List.set_cons_succ]
          clear c0
          refine wpAnyH_ready (rs := [3]) (by kernel_rfl) (by simp) ?_
          refine consL rfl (fun K hK => ?_) AllReadyH.nil
          refine step_app2 (.tmp 50) (.tmp 52) (I + 2) (.slice Ab nb cb) bs HD.out.1.own HD.out.1.sz A1 (min m1 60) c1 (l1.take 60) HD.out.2.1.short hLl.out rfl rfl rfl rfl ?_
          intro A8 n8 c8 w8 hi8 hG
          have hz := hHeld.grown hG.grown (fun k hk => .inl (by rw [hk]; simp))
          have k8 : w8.cell? ⟨I + 1, 0, none⟩ = some (.slice Ab nb cb) := ((HD.out.1.b3.keep (hG.below.block _ (by omega))).cell 0).trans rfl
          have f8 : w8.frozen? ⟨I + 1, 0, none⟩ = false := (HD.out.1.b3.keep (hG.below.block _ (by omega))).frozen 0
          have HG := Lib.hid (HD.out.1.app hG)
          refine hK.out _ _ hz (fun hHeld => ?_)
          clear hK K hz hG
          try simp only [Act.put, List.setIfInBounds_toArray, List.set_cons_zero, List.set_cons_succ]
          refine wpAnyH_ready (rs := [4]) (by kernel_rfl) (by simp) ?_
          refine consL rfl (fun K hK => ?_) AllReadyH.nil
          go_simp
          refine hK.out _ _ (hHeld.setCell (.inl (by simp)) _) (fun hHeld => ?_)
          clear hK K k8 f8
          try simp only [Act.put, List.setIfInBounds_toArray, List.set_cons_zero, List.set_cons_succ]
          refine wpAnyH_done (by kernel_rfl) ?_ _
          refine NoPanic.normal ?_
          clear hHeld
          obtain ⟨w9, hw9⟩ : ∃ w9, w8.setCell ⟨I + 1, 0, none⟩ (.slice A8 n8 c8) = w9 := ⟨_, rfl⟩
          obtain ⟨BS, hBS⟩ : ∃ BS, bs ++ l1.take 60 = BS := ⟨_, rfl⟩
          have hBl : BS.length ≤ 10000000 := by rw [← hBS, List.length_append, List.length_take]; have := HN.out.2; have := Nat.mul_le_mul_right 300000 hk5; omega
          rw [hBS, hw9] at HG
          rw [hw9]
          have HBl := Lib.hid hBl
          clear hBl hw9 hBS
          have c3 := HG.out.b3.cell 0
          simp only [List.getElem?_toArray, List.getElem?_cons_zero] at c3
          go_wp2_with fail
          obtain ⟨N0, hN0⟩ : ∃ N0, nxN BS = N0 := ⟨_, rfl⟩
          obtain ⟨K0, hK0⟩ : ∃ K0, nxK BS = K0 := ⟨_, rfl⟩
          have HNK := Lib.hid (And.intro hN0 hK0)
          clear hN0 hK0
          refine (next_any A8 n8 c8 BS w9 HG.out.own.rd (by have := HBl.out; omega)).mono ?_
          rintro e10 w10 ⟨A10, n10, c10, rfl, hO10, hb10⟩
          rw [HNK.out.1, HNK.out.2]
          have H10 := Lib.hid (And.intro (HG.out.below hb10) hO10)
          clear hb10 hO10 c3
          have c3 := H10.out.1.b3.cell 0
          simp only [List.getElem?_toArray, List.getElem?_cons_zero] at c3
          go_wp2_with fail
          refine (rnext_any A8 n8 c8 BS w10 H10.out.1.own.rd (by have := HBl.out; omega)).mono ?_
          rintro e11 w11 ⟨A11, n11, c11, rfl, hO11, hb11⟩
          rw [HNK.out.1, HNK.out.2]
          have s10 := (H10.out.2.below hb11).rd.str
          have s11 := hO11.rd.str
          have H11 := Lib.hid (H10.out.1.below hb11)
          clear hb11 hO11 c3
          have c3 := H11.out.b3.cell 0
          simp only [List.getElem?_toArray, List.getElem?_cons_zero] at c3
          go_wp2_with fail
          refine (bodies_any A8 n8 c8 w11).mono ?_
          rintro e12 w12 ⟨rfl, hw12⟩
          have hb12 : Below w11.heap.size w11 w12 := by rw [← hw12]; exact (Below.refl _ _).alloc (Nat.le_refl _) _
          have hz12 : w12.heap.size = w11.heap.size + 1 := by rw [← hw12]; simp
          have hX12 : Blk w12 w11.heap.size 22 #[.slice A8 n8 c8] := by rw [← hw12]; exact Blk.new _ _ _
          have H12 := Lib.hid (And.intro (H11.out.below hb12) (And.intro hz12 hX12))
          clear hw12 hb12 hz12 hX12 s10 s11 c3
          have kn := neSeq2
          go_wp2_with fail
          clear kn
          obtain ⟨bx, hbx⟩ : ∃ bx, w11.heap.size = bx := ⟨_, rfl⟩
          obtain ⟨P, hP⟩ : ∃ P, w12.heap.size = P := ⟨_, rfl⟩
          obtain ⟨w13, hw13⟩ : ∃ w13, (w12.alloc (.cells #[.int .i64 0] 3)).alloc (.cells #[.int .i64 0] 3) = w13 := ⟨_, rfl⟩
          have hp : Blk w13 P 3 #[.int .i64 0] := by rw [← hw13, ← hP]; exact (Blk.new _ _ _).alloc _
          have hs : Blk w13 (P + 1) 3 #[.int .i64 0] := by
            rw [← hw13, ← hP]
            have := Blk.new (w12.alloc (.cells #[.int .i64 0] 3)) 3 #[.int .i64 0]
            rwa [show (w12.alloc (.cells #[.int .i64 0] 3)).heap.size = w12.heap.size + 1 by simp] at this
          have hb13 : Below w12.heap.size w12 w13 := by rw [← hw13]; exact ((Below.refl _ _).alloc (Nat.le_refl _) _).alloc (by simp) _
          have hs13 : w13.heap.size = P + 2 := by rw [← hw13, ← hP]; simp
          have hz := H12.out.2.1
          have hszI := H12.out.1.sz
          have hsz11 := H11.out.sz
          have hRg : RgI w X I most A8 n8 c8 BS P w13.heap.size 0 0 w13 := ⟨H12.out.1.below hb13, hp, hs, fun g hg => by have := (H12.out.1.own.lt hg).2; omega, by omega, by omega⟩
          have hbn : bodMine bx A8 n8 c8 BS w13.heap.size 0 w13 := by
            refine ⟨?_, hRg.hn.own.rd, Nat.le_refl _, by omega, fun ad had => hRg.hn.own.rd.lt ad had⟩
            rw [← hbx]; exact H12.out.2.2.below hb13
          rw [hbx, hP]
          try rw [hw13]
          have HRg := Lib.hid (And.intro hRg hbn)
          have hbxP : bx + 1 = P := by omega
          have HbP := Lib.hid (And.intro hbxP (And.intro hs13 (And.intro hszI hsz11)))
          clear hw13 hp hs hb13 hz hRg hbn hbx hP hszI hsz11 hbxP hs13
          obtain ⟨q, hq, hql⟩ := frames_ex BS
          have HQ := Lib.hid (And.intro hq hql)
          have hBl := HBl.out
          clear hql
          refine wp_range2 21 22 (gf := 37) (lb := #[.pointer (some ⟨bx, 0, none⟩)]) (T := []) rfl (fun _ _ => by kernel_rfl)
            (bodies_iter bx A8 n8 c8 q w13.heap.size BS hq (by omega)) (fun k args W h => by obtain ⟨A, m, cq, rfl, _⟩ := h; rfl) (by simp)
            (fun j W => RgI w X I most A8 n8 c8 BS P w13.heap.size ((bAt BS j : Nat) : Int) (j : Int) W)
            (fun c _ W => c = .ret ∧ Blk W (X + 1) 4 #[.bool true] ∧ Below X w W)
            ?hI ?hIx ?hM ?hA HRg.out.1 HRg.out.2 ?hM1 ?hassign ?hbody ?hdone ?hstop
          case hI =>
            rintro j W1 W2 S h ht hS
            exact h.turn ht (fun t htt => by rcases hS t htt with h | ⟨h, _⟩; · cases h
                                             · omega)
          case hIx =>
            rintro cc j W1 W2 S ⟨h0, h1, h2⟩ ht hS
            have hle := HRg.out.1.hn.le
            have hlo := HRg.out.1.lo
            have hhi := HRg.out.1.hi
            have hS' : ∀ t ∈ S, w13.heap.size < t := fun t htt => by rcases hS t htt with h | ⟨h, _⟩; · cases h
                                                                     · omega
            exact ⟨h0, h1.turn ht (fun hm => by have := hS' _ hm; omega), below_turn h2 ht (fun t htt => by have := hS' t htt; omega) (by have := h1.lt; omega)⟩
          case hM =>
            rintro j W1 W2 hM ⟨r, hr⟩ ht
            exact hM.turn ht (by simp) j
          case hA =>
            rintro j args W1 W2 ⟨A, m, cq, rfl, hO⟩ ⟨r, hr⟩ ht
            exact ⟨A, m, cq, rfl, hO.turn ht (fun g hg hm => by simp at hm; subst hm; exact hO.notin (noRow_loop hr) hg)⟩
          case hM1 =>
            intro W ht
            exact HRg.out.2.turn ht (by simp) 0
          case hassign =>
            rintro l' args j W K ⟨A, m, cq, rfl, _⟩ hK
            simp at hK
            gi_wp2
            exact hK
          case hbody =>
            rintro l' j args W hjq hlt hI hMi ⟨Aq, mq, cq, rfl, hOq⟩
            have hj1 := HQ.out.1.1 j hjq
            have hale := bAt_le BS j
            have hbk : bAt BS (j + 1) = bAt BS j + nxN (BS.drop (bAt BS j)) := rfl
            have hale2 := bAt_le BS (j + 1)
            obtain ⟨a, ha⟩ : ∃ a, bAt BS j = a := ⟨_, rfl⟩
            obtain ⟨N, hN⟩ : ∃ N, nxN (BS.drop a) = N := ⟨_, rfl⟩
            obtain ⟨K, hK⟩ : ∃ K, nxK (BS.drop a) = K := ⟨_, rfl⟩
            rw [ha] at hj1 hale hbk hI hOq
            rw [hN] at hj1 hbk
            rw [ha]
            have hc3 := hI.hn.b3.cell 0
            have hcp := hI.hp.cell 0
            simp only [List.getElem?_toArray, List.getElem?_cons_zero] at hc3 hcp
            have hnl := hI.hn.own.len
            obtain ⟨A1', n1', c1', hn1', hrun0, hr1, _⟩ := hI.hn.own.rd.cut_ex2 (k := a) (by omega)
            have hrun := hrun0 W
            have hrn := rnext_any A1' n1' c1' _ W hr1 (by rw [List.length_drop]; omega)
            unfold NxRes at hrn
            rw [hN, hK] at hrn
            have hN0 : ((N : Int) == 0) = false := by have := hj1.2; simpa using this
            have hjl : j ≤ 10000000 := by have := HQ.out.2; omega
            have g1 : IntKind.i64.wrap ((a : Int) + (N : Int)) = (a : Int) + (N : Int) := IntWalk.i64_in _ (by omega)
            have g2 : IntKind.i64.wrap ((j : Int) + 1) = (j : Int) + 1 := IntWalk.i64_in _ (by omega)
            have HI := Lib.hid (And.intro hI (And.intro hMi (And.intro hOq (And.intro hrn hbk))))
            have hji : (j : Int) ≤ 10000000 := by omega
            have hai : (a : Int) + (N : Int) ≤ 10000000 := by omega
            clear hI hMi hOq hrn hbk hrun0 hr1 hn1' hnl hj1 hale hale2 ha hN hK hjl
            by_cases he : (j : Int) + 1 = most
            · have heb : ((j : Int) + 1 == most) = true := by simpa using he
              clear he
              gi_wp2_with (refine ⟨trivial, ?_⟩; gi_at_call 15; refine (callsIn_wide.2 HI.out.2.2.2.1).mono ?_; rintro e w1 ⟨A2, m2, c2, rfl, hO2, hB2⟩; have h1 := HI.out.1.turn (Turn.of_below [] hB2) (by simp); have cP := h1.hp.cell 0; have cS := h1.hs.cell 0; have cM := h1.hn.b0.cell 0; have cI := h1.hn.b2.cell 0; have cR := h1.hn.b1.cell 0; simp only [List.getElem?_toArray, List.getElem?_cons_zero] at cP cS cM cI cR; have fP := h1.hp.frozen 0; have fS := h1.hs.frozen 0; have fR := h1.hn.b1.frozen 0; have sq := (HI.out.2.2.1.below hB2).rd.str; have s2 := hO2.rd.str; have H1' := Lib.hid (And.intro h1 hB2); have hPs := h1.lo; have hPh := h1.hi; have hle := h1.hn.le; have hXl := h1.hn.b0.lt; clear h1 hO2 hB2)
              have hst := H1'.out.1.step ((a : Int) + (N : Int)) ((j : Int) + 1)
              have hTT : Turn [P, P + 1] W ((w1.setCell ⟨P, 0, none⟩ (.int .i64 ((a : Int) + (N : Int)))).setCell ⟨P + 1, 0, none⟩ (.int .i64 ((j : Int) + 1))) := (Turn.of_below [P, P + 1] H1'.out.2).trans hst.1 (fun _ hx => .inl hx)
              have hlast := hst.2.last
              exact ⟨⟨[P, P + 1, X + 1], (hTT.more (by simp)).trans (hlast.1.more (S' := [P, P + 1, X + 1]) (by simp)) (fun _ hx => .inl hx), by simp; omega, by simp; omega⟩, rfl, hlast.2.1, hlast.2.2⟩
            · have heb : ((j : Int) + 1 == most) = false := by simpa using he
              clear he
              gi_wp2_with (refine ⟨trivial, ?_⟩; gi_at_call 15; refine (callsIn_wide.2 HI.out.2.2.2.1).mono ?_; rintro e w1 ⟨A2, m2, c2, rfl, hO2, hB2⟩; have h1 := HI.out.1.turn (Turn.of_below [] hB2) (by simp); have cP := h1.hp.cell 0; have cS := h1.hs.cell 0; have cM := h1.hn.b0.cell 0; have cI := h1.hn.b2.cell 0; have cR := h1.hn.b1.cell 0; simp only [List.getElem?_toArray, List.getElem?_cons_zero] at cP cS cM cI cR; have fP := h1.hp.frozen 0; have fS := h1.hs.frozen 0; have fR := h1.hn.b1.frozen 0; have sq := (HI.out.2.2.1.below hB2).rd.str; have s2 := hO2.rd.str; have H1' := Lib.hid (And.intro h1 hB2); have hPs := h1.lo; have hPh := h1.hi; have hle := h1.hn.le; have hXl := h1.hn.b0.lt; clear h1 hO2 hB2)
              have hst := H1'.out.1.step ((a : Int) + (N : Int)) ((j : Int) + 1)
              have hTT : Turn [P, P + 1] W ((w1.setCell ⟨P, 0, none⟩ (.int .i64 ((a : Int) + (N : Int)))).setCell ⟨P + 1, 0, none⟩ (.int .i64 ((j : Int) + 1))) := (Turn.of_below [P, P + 1] H1'.out.2).trans hst.1 (fun _ hx => .inl hx)
              refine ⟨⟨[P, P + 1], hTT, by simp; omega, by simp; omega⟩, ?_, ?_⟩
              · have e1 : ((bAt BS (j + 1) : Nat) : Int) = (a : Int) + (N : Int) := by rw [HI.out.2.2.2.2]; exact Int.natCast_add _ _
                have e2 : (((j + 1 : Nat)) : Int) = (j : Int) + 1 := by omega
                show RgI w X I most A8 n8 c8 BS P w13.heap.size ((bAt BS (j + 1) : Nat) : Int) ((j + 1 : Nat) : Int) _
                rw [e1, e2]
                exact hst.2
              · obtain ⟨m1', m2', m3', m4', m5'⟩ := HI.out.2.1
                have hbb := HbP.out.1
                exact ⟨m1'.turn hTT (by simp; omega), hst.2.hn.own.rd, Nat.le_trans m3' hTT.size, m4', m5'⟩
          case hdone =>
            rintro W hlt hI hKd
            have hend : nxN (BS.drop (bAt BS q)) = 0 := by
              rcases HQ.out.1.2 with h | h
              · exact nxK_no h
              · exact h
            have hale := bAt_le BS q
            obtain ⟨a, ha⟩ : ∃ a, bAt BS q = a := ⟨_, rfl⟩
            obtain ⟨K, hK⟩ : ∃ K, nxK (BS.drop a) = K := ⟨_, rfl⟩
            rw [ha] at hend hale hI
            have hc3 := hI.hn.b3.cell 0
            have hcp := hI.hp.cell 0
            simp only [List.getElem?_toArray, List.getElem?_cons_zero] at hc3 hcp
            have hnl := hI.hn.own.len
            obtain ⟨A1', n1', c1', hn1', hrun0, hr1, _⟩ := hI.hn.own.rd.cut_ex2 (k := a) (by omega)
            have hrun := hrun0 W
            have hrn := rnext_any A1' n1' c1' _ W hr1 (by rw [List.length_drop]; omega)
            unfold NxRes at hrn
            rw [hend, hK, show ((0 : Nat) : Int) = 0 from rfl] at hrn
            have HI := Lib.hid (And.intro hI (And.intro hrn hKd))
            clear hI hrn hKd hend hrun0 hr1 hn1' hnl hale ha hK
            go_wp2_with fail
            refine HI.out.2.1.mono ?_
            rintro e w1 ⟨A2, m2, c2, rfl, hO2, hB2⟩
            have h1 := HI.out.1.turn (Turn.of_below [] hB2) (by simp)
            have cI := h1.hn.b2.cell 0
            have cR := h1.hn.b1.cell 0
            simp only [List.getElem?_toArray, List.getElem?_cons_zero] at cI cR
            have fR := h1.hn.b1.frozen 0
            have H1' := Lib.hid (And.intro h1 hB2)
            clear h1 hO2 hB2 hc3 hcp hrun
            go_wp2_with fail
            have hlast := H1'.out.1.last
            have hKw : (w1.setCell ⟨X + 1, 0, none⟩ (.bool true)).heap[w13.heap.size]? = some (.deferred (some [])) := by
              have hle := H1'.out.1.hn.le
              have hlo := H1'.out.1.lo
              have hhi := H1'.out.1.hi
              have hs := H1'.out.2.size
              rw [hlast.1.block _ (by omega) (by simp; omega), H1'.out.2.block _ (by omega)]
              exact HI.out.2.2
            have hle := H1'.out.1.hn.le
            have hlo := H1'.out.1.lo
            have hhi := H1'.out.1.hi
            have hT9 : Turn [w13.heap.size] (w1.setCell ⟨X + 1, 0, none⟩ (.bool true)) ((w1.setCell ⟨X + 1, 0, none⟩ (.bool true)).putObj w13.heap.size (.deferred none)) := (Turn.refl _ _).putObj (.inl (by simp)) _
            refine ret_cell rfl hKw (v := .bool true) ?_ ⟨rfl, by rw [HX.out.2.2.1]; exact below_turn hlast.2.2 hT9 (by simp; omega) (by have := hlast.2.1.lt; omega)⟩
            exact res_cell rfl rfl (hlast.2.1.turn hT9 (by simp; omega))
          case hstop =>
            rintro cc j W hlt hjq ⟨rfl, hB, hO⟩ hKd
            have HB := Lib.hid (And.intro hB (And.intro hO hKd))
            clear hB hO hKd
            have hle := HRg.out.1.hn.le
            have hlo := HRg.out.1.lo
            have hhi := HRg.out.1.hi
            go_wp2_with fail
            have hT9 : Turn [w13.heap.size] W (W.putObj w13.heap.size (.deferred none)) := (Turn.refl _ _).putObj (.inl (by simp)) _
            refine ret_cell rfl HB.out.2.2 (v := .bool true) ?_ ⟨rfl, by rw [HX.out.2.2.1]; exact below_turn HB.out.2.1 hT9 (by simp; omega) (by have := HB.out.1.lt; omega)⟩
            exact res_cell rfl rfl (HB.out.1.turn hT9 (by simp; omega))
        · go_simp
          refine (short_any A1 m1 c1 60 l1 wd HD.out.2.1 (by omega)).mono ?_
          rintro e8 w8 ⟨rfl, rfl⟩
          refine hK.out _ _ hHeld (fun hHeld => ?_)
          clear hK K
          try simp only [Act.put, List.setIfInBounds_toArray, List.set_cons_zero, List.set_cons_succ]
          refine wpAnyH_ready (rs := [0]) (by kernel_rfl) (by simp) ?_
          refine consL rfl (fun K hK => ?_) AllReadyH.nil
          go_simp
          refine hK.out _ _ hHeld (fun hHeld => ?_)
          clear hK K
          try simp only [Act.put, List.setIfInBounds_toArray, List.set_cons_zero, List.set_cons_succ]
          clear c0
          refine wpAnyH_ready (rs := [3]) (by kernel_rfl) (by simp) ?_
          refine consL rfl (fun K hK => ?_) AllReadyH.nil
          refine step_app2 (.tmp 50) (.tmp 52) (I + 2) (.slice Ab nb cb) bs HD.out.1.own HD.out.1.sz A1 (min m1 60) c1 (l1.take 60) HD.out.2.1.short hLl.out rfl rfl rfl rfl ?_
          intro A8 n8 c8 w8 hi8 hG
          have hz := hHeld.grown hG.grown (fun k hk => .inl (by rw [hk]; simp))
          have k8 : w8.cell? ⟨I + 1, 0, none⟩ = some (.slice Ab nb cb) := ((HD.out.1.b3.keep (hG.below.block _ (by omega))).cell 0).trans rfl
          have f8 : w8.frozen? ⟨I + 1, 0, none⟩ = false := (HD.out.1.b3.keep (hG.below.block _ (by omega))).frozen 0
          have HG := Lib.hid (HD.out.1.app hG)
          refine hK.out _ _ hz (fun hHeld => ?_)
          clear hK K hz hG
          try simp only [Act.put, List.setIfInBounds_toArray, List.set_cons_zero, List.set_cons_succ]
          refine wpAnyH_ready (rs := [4]) (by kernel_rfl) (by simp) ?_
          refine consL rfl (fun K hK => ?_) AllReadyH.nil
          go_simp
          refine hK.out _ _ (hHeld.setCell (.inl (by simp)) _) (fun hHeld => ?_)
          clear hK K k8 f8
          try simp only [Act.put, List.setIfInBounds_toArray, List.set_cons_zero, List.set_cons_succ]
          refine wpAnyH_done (by kernel_rfl) ?_ _
          refine NoPanic.normal ?_
          clear hHeld
          obtain ⟨w9, hw9⟩ : ∃ w9, w8.setCell ⟨I + 1, 0, none⟩ (.slice A8 n8 c8) = w9 := ⟨_, rfl⟩
          obtain ⟨BS, hBS⟩ : ∃ BS, bs ++ l1.take 60 = BS := ⟨_, rfl⟩
          have hBl : BS.length ≤ 10000000 := by rw [← hBS, List.length_append, List.length_take]; have := HN.out.2; have := Nat.mul_le_mul_right 300000 hk5; omega
          rw [hBS, hw9] at HG
          rw [hw9]
          have HBl := Lib.hid hBl
          clear hBl hw9 hBS
          have c3 := HG.out.b3.cell 0
          simp only [List.getElem?_toArray, List.getElem?_cons_zero] at c3
          go_wp2_with fail
          obtain ⟨N0, hN0⟩ : ∃ N0, nxN BS = N0 := ⟨_, rfl⟩
          obtain ⟨K0, hK0⟩ : ∃ K0, nxK BS = K0 := ⟨_, rfl⟩
          have HNK := Lib.hid (And.intro hN0 hK0)
          clear hN0 hK0
          refine (next_any A8 n8 c8 BS w9 HG.out.own.rd (by have := HBl.out; omega)).mono ?_
          rintro e10 w10 ⟨A10, n10, c10, rfl, hO10, hb10⟩
          rw [HNK.out.1, HNK.out.2]
          have H10 := Lib.hid (And.intro (HG.out.below hb10) hO10)
          clear hb10 hO10 c3
          have c3 := H10.out.1.b3.cell 0
          simp only [List.getElem?_toArray, List.getElem?_cons_zero] at c3
          go_wp2_with fail
          refine (rnext_any A8 n8 c8 BS w10 H10.out.1.own.rd (by have := HBl.out; omega)).mono ?_
          rintro e11 w11 ⟨A11, n11, c11, rfl, hO11, hb11⟩
          rw [HNK.out.1, HNK.out.2]
          have s10 := (H10.out.2.below hb11).rd.str
          have s11 := hO11.rd.str
          have H11 := Lib.hid (H10.out.1.below hb11)
          clear hb11 hO11 c3
          have c3 := H11.out.b3.cell 0
          simp only [List.getElem?_toArray, List.getElem?_cons_zero] at c3
          go_wp2_with fail
          refine (bodies_any A8 n8 c8 w11).mono ?_
          rintro e12 w12 ⟨rfl, hw12⟩
          have hb12 : Below w11.heap.size w11 w12 := by rw [← hw12]; exact (Below.refl _ _).alloc (Nat.le_refl _) _
          have hz12 : w12.heap.size = w11.heap.size + 1 := by rw [← hw12]; simp
          have hX12 : Blk w12 w11.heap.size 22 #[.slice A8 n8 c8] := by rw [← hw12]; exact Blk.new _ _ _
          have H12 := Lib.hid (And.intro (H11.out.below hb12) (And.intro hz12 hX12))
          clear hw12 hb12 hz12 hX12 s10 s11 c3
          have kn := neSeq2
          go_wp2_with fail
          clear kn
          obtain ⟨bx, hbx⟩ : ∃ bx, w11.heap.size = bx := ⟨_, rfl⟩
          obtain ⟨P, hP⟩ : ∃ P, w12.heap.size = P := ⟨_, rfl⟩
          obtain ⟨w13, hw13⟩ : ∃ w13, (w12.alloc (.cells #[.int .i64 0] 3)).alloc (.cells #[.int .i64 0] 3) = w13 := ⟨_, rfl⟩
          have hp : Blk w13 P 3 #[.int .i64 0] := by rw [← hw13, ← hP]; exact (Blk.new _ _ _).alloc _
          have hs : Blk w13 (P + 1) 3 #[.int .i64 0] := by
            rw [← hw13, ← hP]
            have := Blk.new (w12.alloc (.cells #[.int .i64 0] 3)) 3 #[.int .i64 0]
            rwa [show (w12.alloc (.cells #[.int .i64 0] 3)).heap.size = w12.heap.size + 1 by simp] at this
          have hb13 : Below w12.heap.size w12 w13 := by rw [← hw13]; exact ((Below.refl _ _).alloc (Nat.le_refl _) _).alloc (by simp) _
          have hs13 : w13.heap.size = P + 2 := by rw [← hw13, ← hP]; simp
          have hz := H12.out.2.1
          have hszI := H12.out.1.sz
          have hsz11 := H11.out.sz
          have hRg : RgI w X I most A8 n8 c8 BS P w13.heap.size 0 0 w13 := ⟨H12.out.1.below hb13, hp, hs, fun g hg => by have := (H12.out.1.own.lt hg).2; omega, by omega, by omega⟩
          have hbn : bodMine bx A8 n8 c8 BS w13.heap.size 0 w13 := by
            refine ⟨?_, hRg.hn.own.rd, Nat.le_refl _, by omega, fun ad had => hRg.hn.own.rd.lt ad had⟩
            rw [← hbx]; exact H12.out.2.2.below hb13
          rw [hbx, hP]
          try rw [hw13]
          have HRg := Lib.hid (And.intro hRg hbn)
          have hbxP : bx + 1 = P := by omega
          have HbP := Lib.hid (And.intro hbxP (And.intro hs13 (And.intro hszI hsz11)))
          clear hw13 hp hs hb13 hz hRg hbn hbx hP hszI hsz11 hbxP hs13
          obtain ⟨q, hq, hql⟩ := frames_ex BS
          have HQ := Lib.hid (And.intro hq hql)
          have hBl := HBl.out
          clear hql
          refine wp_range2 21 22 (gf := 37) (lb := #[.pointer (some ⟨bx, 0, none⟩)]) (T := []) rfl (fun _ _ => by kernel_rfl)
            (bodies_iter bx A8 n8 c8 q w13.heap.size BS hq (by omega)) (fun k args W h => by obtain ⟨A, m, cq, rfl, _⟩ := h; rfl) (by simp)
            (fun j W => RgI w X I most A8 n8 c8 BS P w13.heap.size ((bAt BS j : Nat) : Int) (j : Int) W)
            (fun c _ W => c = .ret ∧ Blk W (X + 1) 4 #[.bool true] ∧ Below X w W)
            ?hI ?hIx ?hM ?hA HRg.out.1 HRg.out.2 ?hM1 ?hassign ?hbody ?hdone ?hstop
          case hI =>
            rintro j W1 W2 S h ht hS
            exact h.turn ht (fun t htt => by rcases hS t htt with h | ⟨h, _⟩; · cases h
                                             · omega)
          case hIx =>
            rintro cc j W1 W2 S ⟨h0, h1, h2⟩ ht hS
            have hle := HRg.out.1.hn.le
            have hlo := HRg.out.1.lo
            have hhi := HRg.out.1.hi
            have hS' : ∀ t ∈ S, w13.heap.size < t := fun t htt => by rcases hS t htt with h | ⟨h, _⟩; · cases h
                                                                     · omega
            exact ⟨h0, h1.turn ht (fun hm => by have := hS' _ hm; omega), below_turn h2 ht (fun t htt => by have := hS' t htt; omega) (by have := h1.lt; omega)⟩
          case hM =>
            rintro j W1 W2 hM ⟨r, hr⟩ ht
            exact hM.turn ht (by simp) j
          case hA =>
            rintro j args W1 W2 ⟨A, m, cq, rfl, hO⟩ ⟨r, hr⟩ ht
            exact ⟨A, m, cq, rfl, hO.turn ht (fun g hg hm => by simp at hm; subst hm; exact hO.notin (noRow_loop hr) hg)⟩
          case hM1 =>
            intro W ht
            exact HRg.out.2.turn ht (by simp) 0
          case hassign =>
            rintro l' args j W K ⟨A, m, cq, rfl, _⟩ hK
            simp at hK
            gi_wp2
            exact hK
          case hbody =>
            rintro l' j args W hjq hlt hI hMi ⟨Aq, mq, cq, rfl, hOq⟩
            have hj1 := HQ.out.1.1 j hjq
            have hale := bAt_le BS j
            have hbk : bAt BS (j + 1) = bAt BS j + nxN (BS.drop (bAt BS j)) := rfl
            have hale2 := bAt_le BS (j + 1)
            obtain ⟨a, ha⟩ : ∃ a, bAt BS j = a := ⟨_, rfl⟩
            obtain ⟨N, hN⟩ : ∃ N, nxN (BS.drop a) = N := ⟨_, rfl⟩
            obtain ⟨K, hK⟩ : ∃ K, nxK (BS.drop a) = K := ⟨_, rfl⟩
            rw [ha] at hj1 hale hbk hI hOq
            rw [hN] at hj1 hbk
            rw [ha]
            have hc3 := hI.hn.b3.cell 0
            have hcp := hI.hp.cell 0
            simp only [List.getElem?_toArray, List.getElem?_cons_zero] at hc3 hcp
            have hnl := hI.hn.own.len
            obtain ⟨A1', n1', c1', hn1', hrun0, hr1, _⟩ := hI.hn.own.rd.cut_ex2 (k := a) (by omega)
            have hrun := hrun0 W
            have hrn := rnext_any A1' n1' c1' _ W hr1 (by rw [List.length_drop]; omega)
            unfold NxRes at hrn
            rw [hN, hK] at hrn
            have hN0 : ((N : Int) == 0) = false := by have := hj1.2; simpa using this
            have hjl : j ≤ 10000000 := by have := HQ.out.2; omega
            have g1 : IntKind.i64.wrap ((a : Int) + (N : Int)) = (a : Int) + (N : Int) := IntWalk.i64_in _ (by omega)
            have g2 : IntKind.i64.wrap ((j : Int) + 1) = (j : Int) + 1 := IntWalk.i64_in _ (by omega)
            have HI := Lib.hid (And.intro hI (And.intro hMi (And.intro hOq (And.intro hrn hbk))))
            have hji : (j : Int) ≤ 10000000 := by omega
            have hai : (a : Int) + (N : Int) ≤ 10000000 := by omega
            clear hI hMi hOq hrn hbk hrun0 hr1 hn1' hnl hj1 hale hale2 ha hN hK hjl
            by_cases he : (j : Int) + 1 = most
            · have heb : ((j : Int) + 1 == most) = true := by simpa using he
              clear he
              gi_wp2_with (refine ⟨trivial, ?_⟩; gi_at_call 15; refine (callsIn_wide.2 HI.out.2.2.2.1).mono ?_; rintro e w1 ⟨A2, m2, c2, rfl, hO2, hB2⟩; have h1 := HI.out.1.turn (Turn.of_below [] hB2) (by simp); have cP := h1.hp.cell 0; have cS := h1.hs.cell 0; have cM := h1.hn.b0.cell 0; have cI := h1.hn.b2.cell 0; have cR := h1.hn.b1.cell 0; simp only [List.getElem?_toArray, List.getElem?_cons_zero] at cP cS cM cI cR; have fP := h1.hp.frozen 0; have fS := h1.hs.frozen 0; have fR := h1.hn.b1.frozen 0; have sq := (HI.out.2.2.1.below hB2).rd.str; have s2 := hO2.rd.str; have H1' := Lib.hid (And.intro h1 hB2); have hPs := h1.lo; have hPh := h1.hi; have hle := h1.hn.le; have hXl := h1.hn.b0.lt; clear h1 hO2 hB2)
              have hst := H1'.out.1.step ((a : Int) + (N : Int)) ((j : Int) + 1)
              have hTT : Turn [P, P + 1] W ((w1.setCell ⟨P, 0, none⟩ (.int .i64 ((a : Int) + (N : Int)))).setCell ⟨P + 1, 0, none⟩ (.int .i64 ((j : Int) + 1))) := (Turn.of_below [P, P + 1] H1'.out.2).trans hst.1 (fun _ hx => .inl hx)
              have hlast := hst.2.last
              exact ⟨⟨[P, P + 1, X + 1], (hTT.more (by simp)).trans (hlast.1.more (S' := [P, P + 1, X + 1]) (by simp)) (fun _ hx => .inl hx), by simp; omega, by simp; omega⟩, rfl, hlast.2.1, hlast.2.2⟩
            · have heb : ((j : Int) + 1 == most) = false := by simpa using he
              clear he
              gi_wp2_with (refine ⟨trivial, ?_⟩; gi_at_call 15; refine (callsIn_wide.2 HI.out.2.2.2.1).mono ?_; rintro e w1 ⟨A2, m2, c2, rfl, hO2, hB2⟩; have h1 := HI.out.1.turn (Turn.of_below [] hB2) (by simp); have cP := h1.hp.cell 0; have cS := h1.hs.cell 0; have cM := h1.hn.b0.cell 0; have cI := h1.hn.b2.cell 0; have cR := h1.hn.b1.cell 0; simp only [List.getElem?_toArray, List.getElem?_cons_zero] at cP cS cM cI cR; have fP := h1.hp.frozen 0; have fS := h1.hs.frozen 0; have fR := h1.hn.b1.frozen 0; have sq := (HI.out.2.2.1.below hB2).rd.str; have s2 := hO2.rd.str; have H1' := Lib.hid (And.intro h1 hB2); have hPs := h1.lo; have hPh := h1.hi; have hle := h1.hn.le; have hXl := h1.hn.b0.lt; clear h1 hO2 hB2)
              have hst := H1'.out.1.step ((a : Int) + (N : Int)) ((j : Int) + 1)
              have hTT : Turn [P, P + 1] W ((w1.setCell ⟨P, 0, none⟩ (.int .i64 ((a : Int) + (N : Int)))).setCell ⟨P + 1, 0, none⟩ (.int .i64 ((j : Int) + 1))) := (Turn.of_below [P, P + 1] H1'.out.2).trans hst.1 (fun _ hx => .inl hx)
              refine ⟨⟨[P, P + 1], hTT, by simp; omega, by simp; omega⟩, ?_, ?_⟩
              · have e1 : ((bAt BS (j + 1) : Nat) : Int) = (a : Int) + (N : Int) := by rw [HI.out.2.2.2.2]; exact Int.natCast_add _ _
                have e2 : (((j + 1 : Nat)) : Int) = (j : Int) + 1 := by omega
                show RgI w X I most A8 n8 c8 BS P w13.heap.size ((bAt BS (j + 1) : Nat) : Int) ((j + 1 : Nat) : Int) _
                rw [e1, e2]
                exact hst.2
              · obtain ⟨m1', m2', m3', m4', m5'⟩ := HI.out.2.1
                have hbb := HbP.out.1
                exact ⟨m1'.turn hTT (by simp; omega), hst.2.hn.own.rd, Nat.le_trans m3' hTT.size, m4', m5'⟩
          case hdone =>
            rintro W hlt hI hKd
            have hend : nxN (BS.drop (bAt BS q)) = 0 := by
              rcases HQ.out.1.2 with h | h
              · exact nxK_no h
              · exact h
            have hale := bAt_le BS q
            obtain ⟨a, ha⟩ : ∃ a, bAt BS q = a := ⟨_, rfl⟩
            obtain ⟨K, hK⟩ : ∃ K, nxK (BS.drop a) = K := ⟨_, rfl⟩
            rw [ha] at hend hale hI
            have hc3 := hI.hn.b3.cell 0
            have hcp := hI.hp.cell 0
            simp only [List.getElem?_toArray, List.getElem?_cons_zero] at hc3 hcp
            have hnl := hI.hn.own.len
            obtain ⟨A1', n1', c1', hn1', hrun0, hr1, _⟩ := hI.hn.own.rd.cut_ex2 (k := a) (by omega)
            have hrun := hrun0 W
            have hrn := rnext_any A1' n1' c1' _ W hr1 (by rw [List.length_drop]; omega)
            unfold NxRes at hrn
            rw [hend, hK, show ((0 : Nat) : Int) = 0 from rfl] at hrn
            have HI := Lib.hid (And.intro hI (And.intro hrn hKd))
            clear hI hrn hKd hend hrun0 hr1 hn1' hnl hale ha hK
            go_wp2_with fail
            refine HI.out.2.1.mono ?_
            rintro e w1 ⟨A2, m2, c2, rfl, hO2, hB2⟩
            have h1 := HI.out.1.turn (Turn.of_below [] hB2) (by simp)
            have cI := h1.hn.b2.cell 0
            have cR := h1.hn.b1.cell 0
            simp only [List.getElem?_toArray, List.getElem?_cons_zero] at cI cR
            have fR := h1.hn.b1.frozen 0
            have H1' := Lib.hid (And.intro h1 hB2)
            clear h1 hO2 hB2 hc3 hcp hrun
            go_wp2_with fail
            have hlast := H1'.out.1.last
            have hKw : (w1.setCell ⟨X + 1, 0, none⟩ (.bool true)).heap[w13.heap.size]? = some (.deferred (some [])) := by
              have hle := H1'.out.1.hn.le
              have hlo := H1'.out.1.lo
              have hhi := H1'.out.1.hi
              have hs := H1'.out.2.size
              rw [hlast.1.block _ (by omega) (by simp; omega), H1'.out.2.block _ (by omega)]
              exact HI.out.2.2
            have hle := H1'.out.1.hn.le
            have hlo := H1'.out.1.lo
            have hhi := H1'.out.1.hi
            have hT9 : Turn [w13.heap.size] (w1.setCell ⟨X + 1, 0, none⟩ (.bool true)) ((w1.setCell ⟨X + 1, 0, none⟩ (.bool true)).putObj w13.heap.size (.deferred none)) := (Turn.refl _ _).putObj (.inl (by simp)) _
            refine ret_cell rfl hKw (v := .bool true) ?_ ⟨rfl, by rw [HX.out.2.2.1]; exact below_turn hlast.2.2 hT9 (by simp; omega) (by have := hlast.2.1.lt; omega)⟩
            exact res_cell rfl rfl (hlast.2.1.turn hT9 (by simp; omega))
          case hstop =>
            rintro cc j W hlt hjq ⟨rfl, hB, hO⟩ hKd
            have HB := Lib.hid (And.intro hB (And.intro hO hKd))
            clear hB hO hKd
            have hle := HRg.out.1.hn.le
            have hlo := HRg.out.1.lo
            have hhi := HRg.out.1.hi
            go_wp2_with fail
            have hT9 : Turn [w13.heap.size] W (W.putObj w13.heap.size (.deferred none)) := (Turn.refl _ _).putObj (.inl (by simp)) _
            refine ret_cell rfl HB.out.2.2 (v := .bool true) ?_ ⟨rfl, by rw [HX.out.2.2.1]; exact below_turn HB.out.2.1 hT9 (by simp; omega) (by have := HB.out.1.lt; omega)⟩
            exact res_cell rfl rfl (HB.out.1.turn hT9 (by simp; omega))
      · have hlti : ¬ (k : Int) < m := by omega
        have hltd : decide ((k : Int) < m) = false := decide_eq_false hlti
        go_wp2_with fail
        have hLl := Lib.hid (len_sum HN.out.2 (show (l1.take 60).length ≤ 300000 by rw [List.length_take]; omega) hk5)
        refine region_turn ((I + 1) :: (Value.slice Ab nb cb).ownBlock.toList) (by kernel_rfl) (fun wd hOld hHeld hSz => ?_)
        have hNd : NxI w X I most Ab nb cb bs wd := HN.out.1.below hOld
        have hrm : Rd wd A1 m1 c1 l1 := HX.out.2.1.below (by have := hNd.old; rwa [← HX.out.2.2.1] at this)
        have c0 := hNd.b3.cell 0
        simp only [List.getElem?_toArray, List.getElem?_cons_zero] at c0
        have HD := Lib.hid (And.intro hNd (And.intro hrm hOld))
        clear hNd hrm hOld hSz c3
        refine takeL (i := 1) (v := ?_) rfl (by kernel_rfl) (by kernel_rfl) (by kernel_rfl) (fun _ _ _ h => h) (Or.inl ⟨by rfl, ?_⟩) hHeld ?_
        rotate_left
        focus (intro wq hSw; clear hSw; go_simp; try with_reducible rfl)
        try simp only [Act.put, List.setIfInBounds_toArray, List.set_cons_zero, List.set_cons_succ]
        refine wpAnyH_ready (rs := [0, 2]) (by kernel_rfl) (by simp) ?_
        refine consL rfl (fun K hK => ?_) (consL rfl (fun K hK => ?_) AllReadyH.nil)
        · go_simp
          refine hK.out _ _ hHeld (fun hHeld => ?_)
          clear hK K
          try simp only [Act.put, List.setIfInBounds_toArray, List.set_cons_zero, List.set_cons_succ]
          refine wpAnyH_ready (rs := [2]) (by kernel_rfl) (by simp) ?_
          refine consL rfl (fun K hK => ?_) AllReadyH.nil
          go_simp
          refine (short_any A1 m1 c1 60 l1 wd HD.out.2.1 (by omega)).mono ?_
          rintro e8 w8 ⟨rfl, rfl⟩
          refine hK.out _ _ hHeld (fun hHeld => ?_)
          clear hK K
          try simp only [Act.put, List.setIfInBounds_toArray, List.set_cons_zero, List.set_cons_succ]
          clear c0
          refine wpAnyH_ready (rs := [3]) (by kernel_rfl) (by simp) ?_
          refine consL rfl (fun K hK => ?_) AllReadyH.nil
          refine step_app2 (.tmp 50) (.tmp 52) (I + 2) (.slice Ab nb cb) bs HD.out.1.own HD.out.1.sz A1 (min m1 60) c1 (l1.take 60) HD.out.2.1.short hLl.out rfl rfl rfl rfl ?_
          intro A8 n8 c8 w8 hi8 hG
          have hz := hHeld.grown hG.grown (fun k hk => .inl (by rw [hk]; simp))
          have k8 : w8.cell? ⟨I + 1, 0, none⟩ = some (.slice Ab nb cb) := ((HD.out.1.b3.keep (hG.below.block _ (by omega))).cell 0).trans rfl
          have f8 : w8.frozen? ⟨I + 1, 0, none⟩ = false := (HD.out.1.b3.keep (hG.below.block _ (by omega))).frozen 0
          have HG := Lib.hid (HD.out.1.app hG)
          refine hK.out _ _ hz (fun hHeld => ?_)
          clear hK K hz hG
          try simp only [Act.put, List.setIfInBounds_toArray, List.set_cons_zero, List.set_cons_succ]
          refine wpAnyH_ready (rs := [4]) (by kernel_rfl) (by simp) ?_
          refine consL rfl (fun K hK => ?_) AllReadyH.nil
          go_simp
          refine hK.out _ _ (hHeld.setCell (.inl (by simp)) _) (fun hHeld => ?_)
          clear hK K k8 f8
          try simp only [Act.put, List.setIfInBounds_toArray, List.set_cons_zero, List.set_cons_succ]
          refine wpAnyH_done (by kernel_rfl) ?_ _
          refine NoPanic.normal ?_
          clear hHeld
          obtain ⟨w9, hw9⟩ : ∃ w9, w8.setCell ⟨I + 1, 0, none⟩ (.slice A8 n8 c8) = w9 := ⟨_, rfl⟩
          obtain ⟨BS, hBS⟩ : ∃ BS, bs ++ l1.take 60 = BS := ⟨_, rfl⟩
          have hBl : BS.length ≤ 10000000 := by rw [← hBS, List.length_append, List.length_take]; have := HN.out.2; have := Nat.mul_le_mul_right 300000 hk5; omega
          rw [hBS, hw9] at HG
          rw [hw9]
          have HBl := Lib.hid hBl
          clear hBl hw9 hBS
          have c3 := HG.out.b3.cell 0
          simp only [List.getElem?_toArray, List.getElem?_cons_zero] at c3
          go_wp2_with fail
          obtain ⟨N0, hN0⟩ : ∃ N0, nxN BS = N0 := ⟨_, rfl⟩
          obtain ⟨K0, hK0⟩ : ∃ K0, nxK BS = K0 := ⟨_, rfl⟩
          have HNK := Lib.hid (And.intro hN0 hK0)
          clear hN0 hK0
          refine (next_any A8 n8 c8 BS w9 HG.out.own.rd (by have := HBl.out; omega)).mono ?_
          rintro e10 w10 ⟨A10, n10, c10, rfl, hO10, hb10⟩
          rw [HNK.out.1, HNK.out.2]
          have H10 := Lib.hid (And.intro (HG.out.below hb10) hO10)
          clear hb10 hO10 c3
          have c3 := H10.out.1.b3.cell 0
          simp only [List.getElem?_toArray, List.getElem?_cons_zero] at c3
          go_wp2_with fail
          refine (rnext_any A8 n8 c8 BS w10 H10.out.1.own.rd (by have := HBl.out; omega)).mono ?_
          rintro e11 w11 ⟨A11, n11, c11, rfl, hO11, hb11⟩
          rw [HNK.out.1, HNK.out.2]
          have s10 := (H10.out.2.below hb11).rd.str
          have s11 := hO11.rd.str
          have H11 := Lib.hid (H10.out.1.below hb11)
          clear hb11 hO11 c3
          have c3 := H11.out.b3.cell 0
          simp only [List.getElem?_toArray, List.getElem?_cons_zero] at c3
          go_wp2_with fail
          refine (bodies_any A8 n8 c8 w11).mono ?_
          rintro e12 w12 ⟨rfl, hw12⟩
          have hb12 : Below w11.heap.size w11 w12 := by rw [← hw12]; exact (Below.refl _ _).alloc (Nat.le_refl _) _
          have hz12 : w12.heap.size = w11.heap.size + 1 := by rw [← hw12]; simp
          have hX12 : Blk w12 w11.heap.size 22 #[.slice A8 n8 c8] := by rw [← hw12]; exact Blk.new _ _ _
          have H12 := Lib.hid (And.intro (H11.out.below hb12) (And.intro hz12 hX12))
          clear hw12 hb12 hz12 hX12 s10 s11 c3
          have kn := neSeq2
          go_wp2_with fail
          clear kn
          obtain ⟨bx, hbx⟩ : ∃ bx, w11.heap.size = bx := ⟨_, rfl⟩
          obtain ⟨P, hP⟩ : ∃ P, w12.heap.size = P := ⟨_, rfl⟩
          obtain ⟨w13, hw13⟩ : ∃ w13, (w12.alloc (.cells #[.int .i64 0] 3)).alloc (.cells #[.int .i64 0] 3) = w13 := ⟨_, rfl⟩
          have hp : Blk w13 P 3 #[.int .i64 0] := by rw [← hw13, ← hP]; exact (Blk.new _ _ _).alloc _
          have hs : Blk w13 (P + 1) 3 #[.int .i64 0] := by
            rw [← hw13, ← hP]
            have := Blk.new (w12.alloc (.cells #[.int .i64 0] 3)) 3 #[.int .i64 0]
            rwa [show (w12.alloc (.cells #[.int .i64 0] 3)).heap.size = w12.heap.size + 1 by simp] at this
          have hb13 : Below w12.heap.size w12 w13 := by rw [← hw13]; exact ((Below.refl _ _).alloc (Nat.le_refl _) _).alloc (by simp) _
          have hs13 : w13.heap.size = P + 2 := by rw [← hw13, ← hP]; simp
          have hz := H12.out.2.1
          have hszI := H12.out.1.sz
          have hsz11 := H11.out.sz
          have hRg : RgI w X I most A8 n8 c8 BS P w13.heap.size 0 0 w13 := ⟨H12.out.1.below hb13, hp, hs, fun g hg => by have := (H12.out.1.own.lt hg).2; omega, by omega, by omega⟩
          have hbn : bodMine bx A8 n8 c8 BS w13.heap.size 0 w13 := by
            refine ⟨?_, hRg.hn.own.rd, Nat.le_refl _, by omega, fun ad had => hRg.hn.own.rd.lt ad had⟩
            rw [← hbx]; exact H12.out.2.2.below hb13
          rw [hbx, hP]
          try rw [hw13]
          have HRg := Lib.hid (And.intro hRg hbn)
          have hbxP : bx + 1 = P := by omega
          have HbP := Lib.hid (And.intro hbxP (And.intro hs13 (And.intro hszI hsz11)))
          clear hw13 hp hs hb13 hz hRg hbn hbx hP hszI hsz11 hbxP hs13
          obtain ⟨q, hq, hql⟩ := frames_ex BS
          have HQ := Lib.hid (And.intro hq hql)
          have hBl := HBl.out
          clear hql
          refine wp_range2 21 22 (gf := 37) (lb := #[.pointer (some ⟨bx, 0, none⟩)]) (T := []) rfl (fun _ _ => by kernel_rfl)
            (bodies_iter bx A8 n8 c8 q w13.heap.size BS hq (by omega)) (fun k args W h => by obtain ⟨A, m, cq, rfl, _⟩ := h; rfl) (by simp)
            (fun j W => RgI w X I most A8 n8 c8 BS P w13.heap.size ((bAt BS j : Nat) : Int) (j : Int) W)
            (fun c _ W => c = .ret ∧ Blk W (X + 1) 4 #[.bool true] ∧ Below X w W)
            ?hI ?hIx ?hM ?hA HRg.out.1 HRg.out.2 ?hM1 ?hassign ?hbody ?hdone ?hstop
          case hI =>
            rintro j W1 W2 S h ht hS
            exact h.turn ht (fun t htt => by rcases hS t htt with h | ⟨h, _⟩; · cases h
                                             · omega)
          case hIx =>
            rintro cc j W1 W2 S ⟨h0, h1, h2⟩ ht hS
            have hle := HRg.out.1.hn.le
            have hlo := HRg.out.1.lo
            have hhi := HRg.out.1.hi
            have hS' : ∀ t ∈ S, w13.heap.size < t := fun t htt => by rcases hS t htt with h | ⟨h, _⟩; · cases h
                                                                     · omega
            exact ⟨h0, h1.turn ht (fun hm => by have := hS' _ hm; omega), below_turn h2 ht (fun t htt => by have := hS' t htt; omega) (by have := h1.lt; omega)⟩
          case hM =>
            rintro j W1 W2 hM ⟨r, hr⟩ ht
            exact hM.turn ht (by simp) j
          case hA =>
            rintro j args W1 W2 ⟨A, m, cq, rfl, hO⟩ ⟨r, hr⟩ ht
            exact ⟨A, m, cq, rfl, hO.turn ht (fun g hg hm => by simp at hm; subst hm; exact hO.notin (noRow_loop hr) hg)⟩
          case hM1 =>
            intro W ht
            exact HRg.out.2.turn ht (by simp) 0
          case hassign =>
            rintro l' args j W K ⟨A, m, cq, rfl, _⟩ hK
            simp at hK
            gi_wp2
            exact hK
          case hbody =>
            rintro l' j args W hjq hlt hI hMi ⟨Aq, mq, cq, rfl, hOq⟩
            have hj1 := HQ.out.1.1 j hjq
            have hale := bAt_le BS j
            have hbk : bAt BS (j + 1) = bAt BS j + nxN (BS.drop (bAt BS j)) := rfl
            have hale2 := bAt_le BS (j + 1)
            obtain ⟨a, ha⟩ : ∃ a, bAt BS j = a := ⟨_, rfl⟩
            obtain ⟨N, hN⟩ : ∃ N, nxN (BS.drop a) = N := ⟨_, rfl⟩
            obtain ⟨K, hK⟩ : ∃ K, nxK (BS.drop a) = K := ⟨_, rfl⟩
            rw [ha] at hj1 hale hbk hI hOq
            rw [hN] at hj1 hbk
            rw [ha]
            have hc3 := hI.hn.b3.cell 0
            have hcp := hI.hp.cell 0
            simp only [List.getElem?_toArray, List.getElem?_cons_zero] at hc3 hcp
            have hnl := hI.hn.own.len
            obtain ⟨A1', n1', c1', hn1', hrun0, hr1, _⟩ := hI.hn.own.rd.cut_ex2 (k := a) (by omega)
            have hrun := hrun0 W
            have hrn := rnext_any A1' n1' c1' _ W hr1 (by rw [List.length_drop]; omega)
            unfold NxRes at hrn
            rw [hN, hK] at hrn
            have hN0 : ((N : Int) == 0) = false := by have := hj1.2; simpa using this
            have hjl : j ≤ 10000000 := by have := HQ.out.2; omega
            have g1 : IntKind.i64.wrap ((a : Int) + (N : Int)) = (a : Int) + (N : Int) := IntWalk.i64_in _ (by omega)
            have g2 : IntKind.i64.wrap ((j : Int) + 1) = (j : Int) + 1 := IntWalk.i64_in _ (by omega)
            have HI := Lib.hid (And.intro hI (And.intro hMi (And.intro hOq (And.intro hrn hbk))))
            have hji : (j : Int) ≤ 10000000 := by omega
            have hai : (a : Int) + (N : Int) ≤ 10000000 := by omega
            clear hI hMi hOq hrn hbk hrun0 hr1 hn1' hnl hj1 hale hale2 ha hN hK hjl
            by_cases he : (j : Int) + 1 = most
            · have heb : ((j : Int) + 1 == most) = true := by simpa using he
              clear he
              gi_wp2_with (refine ⟨trivial, ?_⟩; gi_at_call 15; refine (callsIn_wide.2 HI.out.2.2.2.1).mono ?_; rintro e w1 ⟨A2, m2, c2, rfl, hO2, hB2⟩; have h1 := HI.out.1.turn (Turn.of_below [] hB2) (by simp); have cP := h1.hp.cell 0; have cS := h1.hs.cell 0; have cM := h1.hn.b0.cell 0; have cI := h1.hn.b2.cell 0; have cR := h1.hn.b1.cell 0; simp only [List.getElem?_toArray, List.getElem?_cons_zero] at cP cS cM cI cR; have fP := h1.hp.frozen 0; have fS := h1.hs.frozen 0; have fR := h1.hn.b1.frozen 0; have sq := (HI.out.2.2.1.below hB2).rd.str; have s2 := hO2.rd.str; have H1' := Lib.hid (And.intro h1 hB2); have hPs := h1.lo; have hPh := h1.hi; have hle := h1.hn.le; have hXl := h1.hn.b0.lt; clear h1 hO2 hB2)
              have hst := H1'.out.1.step ((a : Int) + (N : Int)) ((j : Int) + 1)
              have hTT : Turn [P, P + 1] W ((w1.setCell ⟨P, 0, none⟩ (.int .i64 ((a : Int) + (N : Int)))).setCell ⟨P + 1, 0, none⟩ (.int .i64 ((j : Int) + 1))) := (Turn.of_below [P, P + 1] H1'.out.2).trans hst.1 (fun _ hx => .inl hx)
              have hlast := hst.2.last
              exact ⟨⟨[P, P + 1, X + 1], (hTT.more (by simp)).trans (hlast.1.more (S' := [P, P + 1, X + 1]) (by simp)) (fun _ hx => .inl hx), by simp; omega, by simp; omega⟩, rfl, hlast.2.1, hlast.2.2⟩
            · have heb : ((j : Int) + 1 == most) = false := by simpa using he
              clear he
              gi_wp2_with (refine ⟨trivial, ?_⟩; gi_at_call 15; refine (callsIn_wide.2 HI.out.2.2.2.1).mono ?_; rintro e w1 ⟨A2, m2, c2, rfl, hO2, hB2⟩; have h1 := HI.out.1.turn (Turn.of_below [] hB2) (by simp); have cP := h1.hp.cell 0; have cS := h1.hs.cell 0; have cM := h1.hn.b0.cell 0; have cI := h1.hn.b2.cell 0; have cR := h1.hn.b1.cell 0; simp only [List.getElem?_toArray, List.getElem?_cons_zero] at cP cS cM cI cR; have fP := h1.hp.frozen 0; have fS := h1.hs.frozen 0; have fR := h1.hn.b1.frozen 0; have sq := (HI.out.2.2.1.below hB2).rd.str; have s2 := hO2.rd.str; have H1' := Lib.hid (And.intro h1 hB2); have hPs := h1.lo; have hPh := h1.hi; have hle := h1.hn.le; have hXl := h1.hn.b0.lt; clear h1 hO2 hB2)
              have hst := H1'.out.1.step ((a : Int) + (N : Int)) ((j : Int) + 1)
              have hTT : Turn [P, P + 1] W ((w1.setCell ⟨P, 0, none⟩ (.int .i64 ((a : Int) + (N : Int)))).setCell ⟨P + 1, 0, none⟩ (.int .i64 ((j : Int) + 1))) := (Turn.of_below [P, P + 1] H1'.out.2).trans hst.1 (fun _ hx => .inl hx)
              refine ⟨⟨[P, P + 1], hTT, by simp; omega, by simp; omega⟩, ?_, ?_⟩
              · have e1 : ((bAt BS (j + 1) : Nat) : Int) = (a : Int) + (N : Int) := by rw [HI.out.2.2.2.2]; exact Int.natCast_add _ _
                have e2 : (((j + 1 : Nat)) : Int) = (j : Int) + 1 := by omega
                show RgI w X I most A8 n8 c8 BS P w13.heap.size ((bAt BS (j + 1) : Nat) : Int) ((j + 1 : Nat) : Int) _
                rw [e1, e2]
                exact hst.2
              · obtain ⟨m1', m2', m3', m4', m5'⟩ := HI.out.2.1
                have hbb := HbP.out.1
                exact ⟨m1'.turn hTT (by simp; omega), hst.2.hn.own.rd, Nat.le_trans m3' hTT.size, m4', m5'⟩
          case hdone =>
            rintro W hlt hI hKd
            have hend : nxN (BS.drop (bAt BS q)) = 0 := by
              rcases HQ.out.1.2 with h | h
              · exact nxK_no h
              · exact h
            have hale := bAt_le BS q
            obtain ⟨a, ha⟩ : ∃ a, bAt BS q = a := ⟨_, rfl⟩
            obtain ⟨K, hK⟩ : ∃ K, nxK (BS.drop a) = K := ⟨_, rfl⟩
            rw [ha] at hend hale hI
            have hc3 := hI.hn.b3.cell 0
            have hcp := hI.hp.cell 0
            simp only [List.getElem?_toArray, List.getElem?_cons_zero] at hc3 hcp
            have hnl := hI.hn.own.len
            obtain ⟨A1', n1', c1', hn1', hrun0, hr1, _⟩ := hI.hn.own.rd.cut_ex2 (k := a) (by omega)
            have hrun := hrun0 W
            have hrn := rnext_any A1' n1' c1' _ W hr1 (by rw [List.length_drop]; omega)
            unfold NxRes at hrn
            rw [hend, hK, show ((0 : Nat) : Int) = 0 from rfl] at hrn
            have HI := Lib.hid (And.intro hI (And.intro hrn hKd))
            clear hI hrn hKd hend hrun0 hr1 hn1' hnl hale ha hK
            go_wp2_with fail
            refine HI.out.2.1.mono ?_
            rintro e w1 ⟨A2, m2, c2, rfl, hO2, hB2⟩
            have h1 := HI.out.1.turn (Turn.of_below [] hB2) (by simp)
            have cI := h1.hn.b2.cell 0
            have cR := h1.hn.b1.cell 0
            simp only [List.getElem?_toArray, List.getElem?_cons_zero] at cI cR
            have fR := h1.hn.b1.frozen 0
            have H1' := Lib.hid (And.intro h1 hB2)
            clear h1 hO2 hB2 hc3 hcp hrun
            go_wp2_with fail
            have hlast := H1'.out.1.last
            have hKw : (w1.setCell ⟨X + 1, 0, none⟩ (.bool true)).heap[w13.heap.size]? = some (.deferred (some [])) := by
              have hle := H1'.out.1.hn.le
              have hlo := H1'.out.1.lo
              have hhi := H1'.out.1.hi
              have hs := H1'.out.2.size
              rw [hlast.1.block _ (by omega) (by simp; omega), H1'.out.2.block _ (by omega)]
              exact HI.out.2.2
            have hle := H1'.out.1.hn.le
            have hlo := H1'.out.1.lo
            have hhi := H1'.out.1.hi
            have hT9 : Turn [w13.heap.size] (w1.setCell ⟨X + 1, 0, none⟩ (.bool true)) ((w1.setCell ⟨X + 1, 0, none⟩ (.bool true)).putObj w13.heap.size (.deferred none)) := (Turn.refl _ _).putObj (.inl (by simp)) _
            refine ret_cell rfl hKw (v := .bool true) ?_ ⟨rfl, by rw [HX.out.2.2.1]; exact below_turn hlast.2.2 hT9 (by simp; omega) (by have := hlast.2.1.lt; omega)⟩
            exact res_cell rfl rfl (hlast.2.1.turn hT9 (by simp; omega))
          case hstop =>
            rintro cc j W hlt hjq ⟨rfl, hB, hO⟩ hKd
            have HB := Lib.hid (And.intro hB (And.intro hO hKd))
            clear hB hO hKd
            have hle := HRg.out.1.hn.le
            have hlo := HRg.out.1.lo
            have hhi := HRg.out.1.hi
            go_wp2_with fail
            have hT9 : Turn [w13.heap.size] W (W.putObj w13.heap.size (.deferred none)) := (Turn.refl _ _).putObj (.inl (by simp)) _
            refine ret_cell rfl HB.out.2.2 (v := .bool true) ?_ ⟨rfl, by rw [HX.out.2.2.1]; exact below_turn HB.out.2.1 hT9 (by simp; omega) (by have := HB.out.1.lt; omega)⟩
            exact res_cell rfl rfl (HB.out.1.turn hT9 (by simp; omega))
        · go_simp
          refine (short_any A1 m1 c1 60 l1 wd HD.out.2.1 (by omega)).mono ?_
          rintro e8 w8 ⟨rfl, rfl⟩
          refine hK.out _ _ hHeld (fun hHeld => ?_)
          clear hK K
          try simp only [Act.put, List.setIfInBounds_toArray, List.set_cons_zero, List.set_cons_succ]
          refine wpAnyH_ready (rs := [0]) (by kernel_rfl) (by simp) ?_
          refine consL rfl (fun K hK => ?_) AllReadyH.nil
          go_simp
          refine hK.out _ _ hHeld (fun hHeld => ?_)
          clear hK K
          try simp only [Act.put, List.setIfInBounds_toArray, List.set_cons_zero, List.set_cons_succ]
          clear c0
          refine wpAnyH_ready (rs := [3]) (by kernel_rfl) (by simp) ?_
          refine consL rfl (fun K hK => ?_) AllReadyH.nil
          refine step_app2 (.tmp 50) (.tmp 52) (I + 2) (.slice Ab nb cb) bs HD.out.1.own HD.out.1.sz A1 (min m1 60) c1 (l1.take 60) HD.out.2.1.short hLl.out rfl rfl rfl rfl ?_
          intro A8 n8 c8 w8 hi8 hG
          have hz := hHeld.grown hG.grown (fun k hk => .inl (by rw [hk]; simp))
          have k8 : w8.cell? ⟨I + 1, 0, none⟩ = some (.slice Ab nb cb) := ((HD.out.1.b3.keep (hG.below.block _ (by omega))).cell 0).trans rfl
          have f8 : w8.frozen? ⟨I + 1, 0, none⟩ = false := (HD.out.1.b3.keep (hG.below.block _ (by omega))).frozen 0
          have HG := Lib.hid (HD.out.1.app hG)
          refine hK.out _ _ hz (fun hHeld => ?_)
          clear hK K hz hG
          try simp only [Act.put, List.setIfInBounds_toArray, List.set_cons_zero, List.set_cons_succ]
          refine wpAnyH_ready (rs := [4]) (by kernel_rfl) (by simp) ?_
          refine consL rfl (fun K hK => ?_) AllReadyH.nil
          go_simp
          refine hK.out _ _ (hHeld.setCell (.inl (by simp)) _) (fun hHeld => ?_)
          clear hK K k8 f8
          try simp only [Act.put, List.setIfInBounds_toArray, List.set_cons_zero, List.set_cons_succ]
          refine wpAnyH_done (by kernel_rfl) ?_ _
          refine NoPanic.normal ?_
          clear hHeld
          obtain ⟨w9, hw9⟩ : ∃ w9, w8.setCell ⟨I + 1, 0, none⟩ (.slice A8 n8 c8) = w9 := ⟨_, rfl⟩
          obtain ⟨BS, hBS⟩ : ∃ BS, bs ++ l1.take 60 = BS := ⟨_, rfl⟩
          have hBl : BS.length ≤ 10000000 := by rw [← hBS, List.length_append, List.length_take]; have := HN.out.2; have := Nat.mul_le_mul_right 300000 hk5; omega
          rw [hBS, hw9] at HG
          rw [hw9]
          have HBl := Lib.hid hBl
          clear hBl hw9 hBS
          have c3 := HG.out.b3.cell 0
          simp only [List.getElem?_toArray, List.getElem?_cons_zero] at c3
          go_wp2_with fail
          obtain ⟨N0, hN0⟩ : ∃ N0, nxN BS = N0 := ⟨_, rfl⟩
          obtain ⟨K0, hK0⟩ : ∃ K0, nxK BS = K0 := ⟨_, rfl⟩
          have HNK := Lib.hid (And.intro hN0 hK0)
          clear hN0 hK0
          refine (next_any A8 n8 c8 BS w9 HG.out.own.rd (by have := HBl.out; omega)).mono ?_
          rintro e10 w10 ⟨A10, n10, c10, rfl, hO10, hb10⟩
          rw [HNK.out.1, HNK.out.2]
          have H10 := Lib.hid (And.intro (HG.out.below hb10) hO10)
          clear hb10 hO10 c3
          have c3 := H10.out.1.b3.cell 0
          simp only [List.getElem?_toArray, List.getElem?_cons_zero] at c3
          go_wp2_with fail
          refine (rnext_any A8 n8 c8 BS w10 H10.out.1.own.rd (by have := HBl.out; omega)).mono ?_
          rintro e11 w11 ⟨A11, n11, c11, rfl, hO11, hb11⟩
          rw [HNK.out.1, HNK.out.2]
          have s10 := (H10.out.2.below hb11).rd.str
          have s11 := hO11.rd.str
          have H11 := Lib.hid (H10.out.1.below hb11)
          clear hb11 hO11 c3
          have c3 := H11.out.b3.cell 0
          simp only [List.getElem?_toArray, List.getElem?_cons_zero] at c3
          go_wp2_with fail
          refine (bodies_any A8 n8 c8 w11).mono ?_
          rintro e12 w12 ⟨rfl, hw12⟩
          have hb12 : Below w11.heap.size w11 w12 := by rw [← hw12]; exact (Below.refl _ _).alloc (Nat.le_refl _) _
          have hz12 : w12.heap.size = w11.heap.size + 1 := by rw [← hw12]; simp
          have hX12 : Blk w12 w11.heap.size 22 #[.slice A8 n8 c8] := by rw [← hw12]; exact Blk.new _ _ _
          have H12 := Lib.hid (And.intro (H11.out.below hb12) (And.intro hz12 hX12))
          clear hw12 hb12 hz12 hX12 s10 s11 c3
          have kn := neSeq2
          go_wp2_with fail
          clear kn
          obtain ⟨bx, hbx⟩ : ∃ bx, w11.heap.size = bx := ⟨_, rfl⟩
          obtain ⟨P, hP⟩ : ∃ P, w12.heap.size = P := ⟨_, rfl⟩
          obtain ⟨w13, hw13⟩ : ∃ w13, (w12.alloc (.cells #[.int .i64 0] 3)).alloc (.cells #[.int .i64 0] 3) = w13 := ⟨_, rfl⟩
          have hp : Blk w13 P 3 #[.int .i64 0] := by rw [← hw13, ← hP]; exact (Blk.new _ _ _).alloc _
          have hs : Blk w13 (P + 1) 3 #[.int .i64 0] := by
            rw [← hw13, ← hP]
            have := Blk.new (w12.alloc (.cells #[.int .i64 0] 3)) 3 #[.int .i64 0]
            rwa [show (w12.alloc (.cells #[.int .i64 0] 3)).heap.size = w12.heap.size + 1 by simp] at this
          have hb13 : Below w12.heap.size w12 w13 := by rw [← hw13]; exact ((Below.refl _ _).alloc (Nat.le_refl _) _).alloc (by simp) _
          have hs13 : w13.heap.size = P + 2 := by rw [← hw13, ← hP]; simp
          have hz := H12.out.2.1
          have hszI := H12.out.1.sz
          have hsz11 := H11.out.sz
          have hRg : RgI w X I most A8 n8 c8 BS P w13.heap.size 0 0 w13 := ⟨H12.out.1.below hb13, hp, hs, fun g hg => by have := (H12.out.1.own.lt hg).2; omega, by omega, by omega⟩
          have hbn : bodMine bx A8 n8 c8 BS w13.heap.size 0 w13 := by
            refine ⟨?_, hRg.hn.own.rd, Nat.le_refl _, by omega, fun ad had => hRg.hn.own.rd.lt ad had⟩
            rw [← hbx]; exact H12.out.2.2.below hb13
          rw [hbx, hP]
          try rw [hw13]
          have HRg := Lib.hid (And.intro hRg hbn)
          have hbxP : bx + 1 = P := by omega
          have HbP := Lib.hid (And.intro hbxP (And.intro hs13 (And.intro hszI hsz11)))
          clear hw13 hp hs hb13 hz hRg hbn hbx hP hszI hsz11 hbxP hs13
          obtain ⟨q, hq, hql⟩ := frames_ex BS
          have HQ := Lib.hid (And.intro hq hql)
          have hBl := HBl.out
          clear hql
          refine wp_range2 21 22 (gf := 37) (lb := #[.pointer (some ⟨bx, 0, none⟩)]) (T := []) rfl (fun _ _ => by kernel_rfl)
            (bodies_iter bx A8 n8 c8 q w13.heap.size BS hq (by omega)) (fun k args W h => by obtain ⟨A, m, cq, rfl, _⟩ := h; rfl) (by simp)
            (fun j W => RgI w X I most A8 n8 c8 BS P w13.heap.size ((bAt BS j : Nat) : Int) (j : Int) W)
            (fun c _ W => c = .ret ∧ Blk W (X + 1) 4 #[.bool true] ∧ Below X w W)
            ?hI ?hIx ?hM ?hA HRg.out.1 HRg.out.2 ?hM1 ?hassign ?hbody ?hdone ?hstop
          case hI =>
            rintro j W1 W2 S h ht hS
            exact h.turn ht (fun t htt => by rcases hS t htt with h | ⟨h, _⟩; · cases h
                                             · omega)
          case hIx =>
            rintro cc j W1 W2 S ⟨h0, h1, h2⟩ ht hS
            have hle := HRg.out.1.hn.le
            have hlo := HRg.out.1.lo
            have hhi := HRg.out.1.hi
            have hS' : ∀ t ∈ S, w13.heap.size < t := fun t htt => by rcases hS t htt with h | ⟨h, _⟩; · cases h
                                                                     · omega
            exact ⟨h0, h1.turn ht (fun hm => by have := hS' _ hm; omega), below_turn h2 ht (fun t htt => by have := hS' t htt; omega) (by have := h1.lt; omega)⟩
          case hM =>
            rintro j W1 W2 hM ⟨r, hr⟩ ht
            exact hM.turn ht (by simp) j
          case hA =>
            rintro j args W1 W2 ⟨A, m, cq, rfl, hO⟩ ⟨r, hr⟩ ht
            exact ⟨A, m, cq, rfl, hO.turn ht (fun g hg hm => by simp at hm; subst hm; exact hO.notin (noRow_loop hr) hg)⟩
          case hM1 =>
            intro W ht
            exact HRg.out.2.turn ht (by simp) 0
          case hassign =>
            rintro l' args j W K ⟨A, m, cq, rfl, _⟩ hK
            simp at hK
            gi_wp2
            exact hK
          case hbody =>
            rintro l' j args W hjq hlt hI hMi ⟨Aq, mq, cq, rfl, hOq⟩
            have hj1 := HQ.out.1.1 j hjq
            have hale := bAt_le BS j
            have hbk : bAt BS (j + 1) = bAt BS j + nxN (BS.drop (bAt BS j)) := rfl
            have hale2 := bAt_le BS (j + 1)
            obtain ⟨a, ha⟩ : ∃ a, bAt BS j = a := ⟨_, rfl⟩
            obtain ⟨N, hN⟩ : ∃ N, nxN (BS.drop a) = N := ⟨_, rfl⟩
            obtain ⟨K, hK⟩ : ∃ K, nxK (BS.drop a) = K := ⟨_, rfl⟩
            rw [ha] at hj1 hale hbk hI hOq
            rw [hN] at hj1 hbk
            rw [ha]
            have hc3 := hI.hn.b3.cell 0
            have hcp := hI.hp.cell 0
            simp only [List.getElem?_toArray, List.getElem?_cons_zero] at hc3 hcp
            have hnl := hI.hn.own.len
            obtain ⟨A1', n1', c1', hn1', hrun0, hr1, _⟩ := hI.hn.own.rd.cut_ex2 (k := a) (by omega)
            have hrun := hrun0 W
            have hrn := rnext_any A1' n1' c1' _ W hr1 (by rw [List.length_drop]; omega)
            unfold NxRes at hrn
            rw [hN, hK] at hrn
            have hN0 : ((N : Int) == 0) = false := by have := hj1.2; simpa using this
            have hjl : j ≤ 10000000 := by have := HQ.out.2; omega
            have g1 : IntKind.i64.wrap ((a : Int) + (N : Int)) = (a : Int) + (N : Int) := IntWalk.i64_in _ (by omega)
            have g2 : IntKind.i64.wrap ((j : Int) + 1) = (j : Int) + 1 := IntWalk.i64_in _ (by omega)
            have HI := Lib.hid (And.intro hI (And.intro hMi (And.intro hOq (And.intro hrn hbk))))
            have hji : (j : Int) ≤ 10000000 := by omega
            have hai : (a : Int) + (N : Int) ≤ 10000000 := by omega
            clear hI hMi hOq hrn hbk hrun0 hr1 hn1' hnl hj1 hale hale2 ha hN hK hjl
            by_cases he : (j : Int) + 1 = most
            · have heb : ((j : Int) + 1 == most) = true := by simpa using he
              clear he
              gi_wp2_with (refine ⟨trivial, ?_⟩; gi_at_call 15; refine (callsIn_wide.2 HI.out.2.2.2.1).mono ?_; rintro e w1 ⟨A2, m2, c2, rfl, hO2, hB2⟩; have h1 := HI.out.1.turn (Turn.of_below [] hB2) (by simp); have cP := h1.hp.cell 0; have cS := h1.hs.cell 0; have cM := h1.hn.b0.cell 0; have cI := h1.hn.b2.cell 0; have cR := h1.hn.b1.cell 0; simp only [List.getElem?_toArray, List.getElem?_cons_zero] at cP cS cM cI cR; have fP := h1.hp.frozen 0; have fS := h1.hs.frozen 0; have fR := h1.hn.b1.frozen 0; have sq := (HI.out.2.2.1.below hB2).rd.str; have s2 := hO2.rd.str; have H1' := Lib.hid (And.intro h1 hB2); have hPs := h1.lo; have hPh := h1.hi; have hle := h1.hn.le; have hXl := h1.hn.b0.lt; clear h1 hO2 hB2)
              have hst := H1'.out.1.step ((a : Int) + (N : Int)) ((j : Int) + 1)
              have hTT : Turn [P, P + 1] W ((w1.setCell ⟨P, 0, none⟩ (.int .i64 ((a : Int) + (N : Int)))).setCell ⟨P + 1, 0, none⟩ (.int .i64 ((j : Int) + 1))) := (Turn.of_below [P, P + 1] H1'.out.2).trans hst.1 (fun _ hx => .inl hx)
              have hlast := hst.2.last
              exact ⟨⟨[P, P + 1, X + 1], (hTT.more (by simp)).trans (hlast.1.more (S' := [P, P + 1, X + 1]) (by simp)) (fun _ hx => .inl hx), by simp; omega, by simp; omega⟩, rfl, hlast.2.1, hlast.2.2⟩
            · have heb : ((j : Int) + 1 == most) = false := by simpa using he
              clear he
              gi_wp2_with (refine ⟨trivial, ?_⟩; gi_at_call 15; refine (callsIn_wide.2 HI.out.2.2.2.1).mono ?_; rintro e w1 ⟨A2, m2, c2, rfl, hO2, hB2⟩; have h1 := HI.out.1.turn (Turn.of_below [] hB2) (by simp); have cP := h1.hp.cell 0; have cS := h1.hs.cell 0; have cM := h1.hn.b0.cell 0; have cI := h1.hn.b2.cell 0; have cR := h1.hn.b1.cell 0; simp only [List.getElem?_toArray, List.getElem?_cons_zero] at cP cS cM cI cR; have fP := h1.hp.frozen 0; have fS := h1.hs.frozen 0; have fR := h1.hn.b1.frozen 0; have sq := (HI.out.2.2.1.below hB2).rd.str; have s2 := hO2.rd.str; have H1' := Lib.hid (And.intro h1 hB2); have hPs := h1.lo; have hPh := h1.hi; have hle := h1.hn.le; have hXl := h1.hn.b0.lt; clear h1 hO2 hB2)
              have hst := H1'.out.1.step ((a : Int) + (N : Int)) ((j : Int) + 1)
              have hTT : Turn [P, P + 1] W ((w1.setCell ⟨P, 0, none⟩ (.int .i64 ((a : Int) + (N : Int)))).setCell ⟨P + 1, 0, none⟩ (.int .i64 ((j : Int) + 1))) := (Turn.of_below [P, P + 1] H1'.out.2).trans hst.1 (fun _ hx => .inl hx)
              refine ⟨⟨[P, P + 1], hTT, by simp; omega, by simp; omega⟩, ?_, ?_⟩
              · have e1 : ((bAt BS (j + 1) : Nat) : Int) = (a : Int) + (N : Int) := by rw [HI.out.2.2.2.2]; exact Int.natCast_add _ _
                have e2 : (((j + 1 : Nat)) : Int) = (j : Int) + 1 := by omega
                show RgI w X I most A8 n8 c8 BS P w13.heap.size ((bAt BS (j + 1) : Nat) : Int) ((j + 1 : Nat) : Int) _
                rw [e1, e2]
                exact hst.2
              · obtain ⟨m1', m2', m3', m4', m5'⟩ := HI.out.2.1
                have hbb := HbP.out.1
                exact ⟨m1'.turn hTT (by simp; omega), hst.2.hn.own.rd, Nat.le_trans m3' hTT.size, m4', m5'⟩
          case hdone =>
            rintro W hlt hI hKd
            have hend : nxN (BS.drop (bAt BS q)) = 0 := by
              rcases HQ.out.1.2 with h | h
              · exact nxK_no h
              · exact h
            have hale := bAt_le BS q
            obtain ⟨a, ha⟩ : ∃ a, bAt BS q = a := ⟨_, rfl⟩
            obtain ⟨K, hK⟩ : ∃ K, nxK (BS.drop a) = K := ⟨_, rfl⟩
            rw [ha] at hend hale hI
            have hc3 := hI.hn.b3.cell 0
            have hcp := hI.hp.cell 0
            simp only [List.getElem?_toArray, List.getElem?_cons_zero] at hc3 hcp
            have hnl := hI.hn.own.len
            obtain ⟨A1', n1', c1', hn1', hrun0, hr1, _⟩ := hI.hn.own.rd.cut_ex2 (k := a) (by omega)
            have hrun := hrun0 W
            have hrn := rnext_any A1' n1' c1' _ W hr1 (by rw [List.length_drop]; omega)
            unfold NxRes at hrn
            rw [hend, hK, show ((0 : Nat) : Int) = 0 from rfl] at hrn
            have HI := Lib.hid (And.intro hI (And.intro hrn hKd))
            clear hI hrn hKd hend hrun0 hr1 hn1' hnl hale ha hK
            go_wp2_with fail
            refine HI.out.2.1.mono ?_
            rintro e w1 ⟨A2, m2, c2, rfl, hO2, hB2⟩
            have h1 := HI.out.1.turn (Turn.of_below [] hB2) (by simp)
            have cI := h1.hn.b2.cell 0
            have cR := h1.hn.b1.cell 0
            simp only [List.getElem?_toArray, List.getElem?_cons_zero] at cI cR
            have fR := h1.hn.b1.frozen 0
            have H1' := Lib.hid (And.intro h1 hB2)
            clear h1 hO2 hB2 hc3 hcp hrun
            go_wp2_with fail
            have hlast := H1'.out.1.last
            have hKw : (w1.setCell ⟨X + 1, 0, none⟩ (.bool true)).heap[w13.heap.size]? = some (.deferred (some [])) := by
              have hle := H1'.out.1.hn.le
              have hlo := H1'.out.1.lo
              have hhi := H1'.out.1.hi
              have hs := H1'.out.2.size
              rw [hlast.1.block _ (by omega) (by simp; omega), H1'.out.2.block _ (by omega)]
              exact HI.out.2.2
            have hle := H1'.out.1.hn.le
            have hlo := H1'.out.1.lo
            have hhi := H1'.out.1.hi
            have hT9 : Turn [w13.heap.size] (w1.setCell ⟨X + 1, 0, none⟩ (.bool true)) ((w1.setCell ⟨X + 1, 0, none⟩ (.bool true)).putObj w13.heap.size (.deferred none)) := (Turn.refl _ _).putObj (.inl (by simp)) _
            refine ret_cell rfl hKw (v := .bool true) ?_ ⟨rfl, by rw [HX.out.2.2.1]; exact below_turn hlast.2.2 hT9 (by simp; omega) (by have := hlast.2.1.lt; omega)⟩
            exact res_cell rfl rfl (hlast.2.1.turn hT9 (by simp; omega))
          case hstop =>
            rintro cc j W hlt hjq ⟨rfl, hB, hO⟩ hKd
            have HB := Lib.hid (And.intro hB (And.intro hO hKd))
            clear hB hO hKd
            have hle := HRg.out.1.hn.le
            have hlo := HRg.out.1.lo
            have hhi := HRg.out.1.hi
            go_wp2_with fail
            have hT9 : Turn [w13.heap.size] W (W.putObj w13.heap.size (.deferred none)) := (Turn.refl _ _).putObj (.inl (by simp)) _
            refine ret_cell rfl HB.out.2.2 (v := .bool true) ?_ ⟨rfl, by rw [HX.out.2.2.1]; exact below_turn HB.out.2.1 hT9 (by simp; omega) (by have := HB.out.1.lt; omega)⟩
            exact res_cell rfl rfl (HB.out.1.turn hT9 (by simp; omega))
end Go.Proofs.Ytmanpfenmamflaa
