/-
  Contract of the reference's New.
-/
import Derived.Test.YtpfijfflfgfojaaRef2
import Derived.Deep.RegionLaw
namespace Go.Proofs.Ytpfijfflfgfojaa
open Go.RowKit

theorem Try.infoBs : (Try.prog.info? 28).map (fun i => (i.zero, i.size, i.bytes)) = some (some (.slice none 0 0), 1, 24) := by kernel_rfl
theorem Try.infoBool : (Try.prog.info? 4).map (fun i => (i.zero, i.size, i.bytes)) = some (some (.bool false), 1, 1) := by kernel_rfl
theorem Try.makeBools (n : Nat) (hn : n ≤ 65536) (w : World) : (Instr.makeSlice 29 (.int .i64 (n : Int)) (.int .i64 (n : Int))).run Try.prog w = .ok (.slice (some ⟨w.heap.size, 0, none⟩) n n) (w.alloc (.cells ((List.replicate n false).map Value.bool).toArray 4)) := by
  obtain ⟨i0, hi, hz0, hz1, hz2⟩ := info_parts Try.infoBool
  have hr := run_make (P := Try.prog) w 29 4 i0 (.bool false) Try.underlying29 hi hz0 .i64 .i64 n n (by omega) (by omega) (by rw [hz2]; omega) (by omega)
  simp only [Int.toNat_natCast, hz1, Nat.mul_one, Value.cells, madeCells_one] at hr
  rw [hr]
  simp

/-- A block in the making. -/
structure Making (w0 w : World) (n kS kN : Nat) (AS : Option Addr) (cS : Nat) (AN : Option Addr) (cN : Nat) (xs ys : List Value) : Prop where
  head : Blk w (w0.heap.size + 1) 38 #[.slice AS kS cS, .slice AN kN cN, .slice (some ⟨w0.heap.size, 0, none⟩) n n, .int .i64 (-1), .int .i64 0]
  wet : Blk w w0.heap.size 4 ((List.replicate n false).map Value.bool).toArray
  ownS : w.ownsRow w0.heap.size 28 1 (.slice AS kS cS) kS xs
  ownN : w.ownsRow w0.heap.size 28 1 (.slice AN kN cN) kN ys
  apart : ∀ a b, AS = some a → AN = some b → a.block ≠ b.block
  okS : ValsOk w xs (List.replicate kS (zs 256))
  okN : ValsOk w ys (List.replicate kN (zs 256))
  below : Below w0.heap.size w0 w

theorem own_slice_keep {w w' : World} {base : Nat} {e : TypeId} {size n : Nat} {v : Value} {xs : List Value} (h : w.ownsRow base e size v n xs) (hk : ∀ g, v.ownBlock = some g → w'.heap[g]? = w.heap[g]?) : w'.ownsRow base e size v n xs := by
  obtain ⟨h1, h2⟩ := h
  refine ⟨h1, ?_⟩
  rcases h2 with h2 | ⟨g, cap, cur, rfl, hg, hh, r⟩
  · exact .inl h2
  · exact .inr ⟨g, cap, cur, rfl, hg, (hk g rfl).trans hh, r⟩
theorem own_noRow {w : World} {base n : Nat} {e : TypeId} {v : Value} {xs : List Value} (h : w.ownsRow base e 1 v n xs) (he : e ≠ 5) {g : Nat} (hg : v.ownBlock = some g) : NoRow w g := by
  obtain ⟨h1, h2⟩ := h
  rcases h2 with ⟨rfl, _⟩ | ⟨g', cap, cur, rfl, _, hh, r⟩
  · simp [Value.ownBlock] at hg
  · cases hg; exact Blk.noRow (t := e) hh he
theorem own_ne {w : World} {base n g' : Nat} {e t' : TypeId} {v : Value} {xs : List Value} {cs : Array Value} (h : w.ownsRow base e 1 v n xs) (hb : Blk w g' t' cs) (he : e ≠ t') : v.ownBlock ≠ some g' := by
  obtain ⟨h1, h2⟩ := h
  rcases h2 with ⟨rfl, _⟩ | ⟨g, cap, cur, rfl, _, hh, r⟩
  · simp [Value.ownBlock]
  · intro hg; cases hg; exact Blk.ne_ (t := e) hh hb he rfl

/-- One more row of zeros behind the one slice. -/
theorem Making.stepS {w0 w wA w1 : World} {n kS kN cS cN g cap : Nat} {AS AN : Option Addr} {xs ys : List Value} {z : Value} (h : Making w0 w n kS kN AS cS AN cN xs ys)
    (hal : Below w.heap.size w wA) (hz : Byt wA z (some (zs 256))) (hown : w1.ownsRow w0.heap.size 28 1 (.slice (some ⟨g, 0, none⟩) (kS + 1) cap) (kS + 1) (xs ++ [z])) (hgrow : wA.grownBy w1 (Value.slice AS kS cS).ownBlock)
    (hat : (Value.slice AS kS cS).ownBlock = some g ∨ g = wA.heap.size) :
    Making w0 (w1.setCell ⟨w0.heap.size + 1, 0, none⟩ (.slice (some ⟨g, 0, none⟩) (kS + 1) cap)) n (kS + 1) kN (some ⟨g, 0, none⟩) cap AN cN (xs ++ [z]) ys := by
  have hA0 := h.head.below hal
  have hW0 := h.wet.below hal
  have hlt := h.head.lt
  have hsz := hal.size
  have kA : ∀ b, (Value.slice AS kS cS).ownBlock = some b → wA.heap[b]? = w.heap[b]? := fun b hb => hal.block b (World.ownsRow.lt h.ownS b hb).2
  have kN' : ∀ b, (Value.slice AN kN cN).ownBlock = some b → wA.heap[b]? = w.heap[b]? := fun b hb => hal.block b (World.ownsRow.lt h.ownN b hb).2
  have oS := own_slice_keep h.ownS kA
  have oN := own_slice_keep h.ownN kN'
  have nd : (Value.slice AS kS cS).ownBlock ≠ some (w0.heap.size + 1) := own_ne oS hA0 (by decide)
  have nW : (Value.slice AS kS cS).ownBlock ≠ some w0.heap.size := own_ne oS hW0 (by decide)
  have gd : g ≠ w0.heap.size + 1 := hat.elim (fun h1 e => nd (h1.trans (by rw [e]))) (fun h1 => by omega)
  have bh1 : Blk w1 (w0.heap.size + 1) 38 _ := hA0.keep (hgrow.block _ hA0.lt (fun e => nd e.symm))
  have bw1 : Blk w1 w0.heap.size 4 _ := hW0.keep (hgrow.block _ hW0.lt (fun e => nW e.symm))
  have noS : ∀ b, (Value.slice AS kS cS).ownBlock = some b → NoRow wA b := fun b hb => own_noRow oS (by decide) hb
  have tg : ∀ {v : Value} {l : List UInt8}, Byt wA v (some l) → Byt (w1.setCell ⟨w0.heap.size + 1, 0, none⟩ (.slice (some ⟨g, 0, none⟩) (kS + 1) cap)) v (some l) := by
    intro v l hv
    have h1 : Byt w1 v (some l) := ⟨hv.1.keep fun b hb => hgrow.block b (hv.1.lt hb).2 (fun e => hv.1.notin (noS b e.symm) hb), hv.2⟩
    exact h1.turn (S := [w0.heap.size + 1]) ((Turn.refl _ _).setCell (.inl (by simp)) _) (fun b hb hm => by simp at hm; subst hm; exact h1.notin (bh1.noRow (by decide)) hb)
  refine ⟨?_, ?_, ?_, ?_, ?_, ?_, ?_, ?_⟩
  · have := bh1.set_ 0 (.slice (some ⟨g, 0, none⟩) (kS + 1) cap)
    simpa using this
  · exact bw1.far (p := ⟨w0.heap.size + 1, 0, none⟩) (by simp) _
  · exact own_slice_keep hown fun b hb => Below.heap_setCell _ _ _ _ (by intro e; cases hb; exact gd e)
  · refine own_slice_keep (own_slice_keep oN fun b hb => hgrow.block b (World.ownsRow.lt oN b hb).2 ?_) fun b hb => Below.heap_setCell _ _ _ _ ?_
    · intro e
      cases AS with
      | none => cases e
      | some a => cases AN with
        | none => cases hb
        | some c => exact h.apart a c rfl rfl (by simp only [Value.ownBlock, Option.some.injEq] at hb e; omega)
    · intro e; exact own_ne oN hA0 (by decide) (hb.trans (by rw [e]))
  · intro a b ha hb
    cases ha; cases hb
    rcases hat with h1 | h1
    · cases AS with
      | none => cases h1
      | some a => simp only [Value.ownBlock, Option.some.injEq] at h1; subst h1; exact h.apart a b rfl rfl
    · intro e
      have := (World.ownsRow.lt h.ownN b.block rfl).2
      simp at e
      omega
  · rw [List.replicate_succ']
    refine ValsOk.snoc ⟨h.okS.1, fun i v l hv hl => ?_⟩ (tg hz) (zs_len 256)
    obtain ⟨a, b⟩ := h.okS.2 i v l hv hl
    exact ⟨tg (a.below hal), b⟩
  · refine ⟨h.okN.1, fun i v l hv hl => ?_⟩
    obtain ⟨a, b⟩ := h.okN.2 i v l hv hl
    exact ⟨tg (a.below hal), b⟩
  · have h1 := h.below.trans (hal.mono h.below.size)
    have h2 := h1.grown hgrow h1.size (fun b hb => (World.ownsRow.lt oS b hb).1)
    exact h2.setCell (by simp) _
/-- One more row of zeros behind the other slice. -/
theorem Making.stepN {w0 w wA w1 : World} {n kS kN cS cN g cap : Nat} {AS AN : Option Addr} {xs ys : List Value} {z : Value} (h : Making w0 w n kS kN AS cS AN cN xs ys)
    (hal : Below w.heap.size w wA) (hz : Byt wA z (some (zs 256))) (hown : w1.ownsRow w0.heap.size 28 1 (.slice (some ⟨g, 0, none⟩) (kN + 1) cap) (kN + 1) (ys ++ [z])) (hgrow : wA.grownBy w1 (Value.slice AN kN cN).ownBlock)
    (hat : (Value.slice AN kN cN).ownBlock = some g ∨ g = wA.heap.size) :
    Making w0 (w1.setCell ⟨w0.heap.size + 1, 1, none⟩ (.slice (some ⟨g, 0, none⟩) (kN + 1) cap)) n kS (kN + 1) AS cS (some ⟨g, 0, none⟩) cap xs (ys ++ [z]) := by
  have hA0 := h.head.below hal
  have hW0 := h.wet.below hal
  have hlt := h.head.lt
  have hsz := hal.size
  have kA : ∀ b, (Value.slice AS kS cS).ownBlock = some b → wA.heap[b]? = w.heap[b]? := fun b hb => hal.block b (World.ownsRow.lt h.ownS b hb).2
  have kN' : ∀ b, (Value.slice AN kN cN).ownBlock = some b → wA.heap[b]? = w.heap[b]? := fun b hb => hal.block b (World.ownsRow.lt h.ownN b hb).2
  have oS := own_slice_keep h.ownS kA
  have oN := own_slice_keep h.ownN kN'
  have nd : (Value.slice AN kN cN).ownBlock ≠ some (w0.heap.size + 1) := own_ne oN hA0 (by decide)
  have nW : (Value.slice AN kN cN).ownBlock ≠ some w0.heap.size := own_ne oN hW0 (by decide)
  have gd : g ≠ w0.heap.size + 1 := hat.elim (fun h1 e => nd (h1.trans (by rw [e]))) (fun h1 => by omega)
  have bh1 : Blk w1 (w0.heap.size + 1) 38 _ := hA0.keep (hgrow.block _ hA0.lt (fun e => nd e.symm))
  have bw1 : Blk w1 w0.heap.size 4 _ := hW0.keep (hgrow.block _ hW0.lt (fun e => nW e.symm))
  have noS : ∀ b, (Value.slice AN kN cN).ownBlock = some b → NoRow wA b := fun b hb => own_noRow oN (by decide) hb
  have tg : ∀ {v : Value} {l : List UInt8}, Byt wA v (some l) → Byt (w1.setCell ⟨w0.heap.size + 1, 1, none⟩ (.slice (some ⟨g, 0, none⟩) (kN + 1) cap)) v (some l) := by
    intro v l hv
    have h1 : Byt w1 v (some l) := ⟨hv.1.keep fun b hb => hgrow.block b (hv.1.lt hb).2 (fun e => hv.1.notin (noS b e.symm) hb), hv.2⟩
    exact h1.turn (S := [w0.heap.size + 1]) ((Turn.refl _ _).setCell (.inl (by simp)) _) (fun b hb hm => by simp at hm; subst hm; exact h1.notin (bh1.noRow (by decide)) hb)
  refine ⟨?_, ?_, ?_, ?_, ?_, ?_, ?_, ?_⟩
  · have := bh1.set_ 1 (.slice (some ⟨g, 0, none⟩) (kN + 1) cap)
    simpa using this
  · exact bw1.far (p := ⟨w0.heap.size + 1, 1, none⟩) (by simp) _
  · refine own_slice_keep (own_slice_keep oS fun b hb => hgrow.block b (World.ownsRow.lt oS b hb).2 ?_) fun b hb => Below.heap_setCell _ _ _ _ ?_
    · intro e
      cases AN with
      | none => cases e
      | some a => cases AS with
        | none => cases hb
        | some c => exact h.apart c a rfl rfl (by simp only [Value.ownBlock, Option.some.injEq] at hb e; omega)
    · intro e; exact own_ne oS hA0 (by decide) (hb.trans (by rw [e]))
  · exact own_slice_keep hown fun b hb => Below.heap_setCell _ _ _ _ (by intro e; cases hb; exact gd e)
  · intro a b ha hb
    cases ha; cases hb
    rcases hat with h1 | h1
    · cases AN with
      | none => cases h1
      | some c => simp only [Value.ownBlock, Option.some.injEq] at h1; subst h1; exact h.apart a c rfl rfl
    · intro e
      have := (World.ownsRow.lt h.ownS a.block rfl).2
      simp at e
      omega
  · refine ⟨h.okS.1, fun i v l hv hl => ?_⟩
    obtain ⟨a, b⟩ := h.okS.2 i v l hv hl
    exact ⟨tg (a.below hal), b⟩
  · rw [List.replicate_succ']
    refine ValsOk.snoc ⟨h.okN.1, fun i v l hv hl => ?_⟩ (tg hz) (zs_len 256)
    obtain ⟨a, b⟩ := h.okN.2 i v l hv hl
    exact ⟨tg (a.below hal), b⟩
  · have h1 := h.below.trans (hal.mono h.below.size)
    have h2 := h1.grown hgrow h1.size (fun b hb => (World.ownsRow.lt oN b hb).1)
    exact h2.setCell (by simp) _

theorem Making.afterS {w0 w wA w1 : World} {n kS kN cS cN : Nat} {AS AN : Option Addr} {xs ys : List Value} (h : Making w0 w n kS kN AS cS AN cN xs ys) (hal : Below w.heap.size w wA) (hgrow : wA.grownBy w1 (Value.slice AS kS cS).ownBlock) :
    Blk w1 (w0.heap.size + 1) 38 #[.slice AS kS cS, .slice AN kN cN, .slice (some ⟨w0.heap.size, 0, none⟩) n n, .int .i64 (-1), .int .i64 0] := by
  have hA0 := h.head.below hal
  have oS := own_slice_keep h.ownS (fun b hb => hal.block b (World.ownsRow.lt h.ownS b hb).2)
  exact hA0.keep (hgrow.block _ hA0.lt (fun e => own_ne oS hA0 (by decide) e.symm))
theorem Making.afterN {w0 w wA w1 : World} {n kS kN cS cN : Nat} {AS AN : Option Addr} {xs ys : List Value} (h : Making w0 w n kS kN AS cS AN cN xs ys) (hal : Below w.heap.size w wA) (hgrow : wA.grownBy w1 (Value.slice AN kN cN).ownBlock) :
    Blk w1 (w0.heap.size + 1) 38 #[.slice AS kS cS, .slice AN kN cN, .slice (some ⟨w0.heap.size, 0, none⟩) n n, .int .i64 (-1), .int .i64 0] := by
  have hA0 := h.head.below hal
  have oN := own_slice_keep h.ownN (fun b hb => hal.block b (World.ownsRow.lt h.ownN b hb).2)
  exact hA0.keep (hgrow.block _ hA0.lt (fun e => own_ne oN hA0 (by decide) e.symm))

/-- A new row of zeros, and a block that holds it. -/
theorem two_new (w : World) : ((w.alloc (.cells (madeCells #[.int .u8 0] 256) 5)).alloc (.cells #[.slice (some ⟨w.heap.size, 0, none⟩) 256 256] 28)).heap[w.heap.size + 1]? = some (.cells #[.slice (some ⟨w.heap.size, 0, none⟩) 256 256] 28 (0, 0)) := by
  have := heap_alloc_new (w.alloc (.cells (madeCells #[.int .u8 0] 256) 5)) (.cells #[.slice (some ⟨w.heap.size, 0, none⟩) 256 256] 28)
  rwa [World.size_alloc] at this
theorem two_byt (w : World) : Byt ((w.alloc (.cells (madeCells #[.int .u8 0] 256) 5)).alloc (.cells #[.slice (some ⟨w.heap.size, 0, none⟩) 256 256] 28)).drew (.slice (some ⟨w.heap.size, 0, none⟩) 256 256) (some (zs 256)) :=
  ⟨((Own.made w 256 (by unfold maxLen; omega)).below (((Below.refl _ _).alloc (Nat.le_refl _) _).drew)).mono (Nat.zero_le _), slice_ne_nil _ _ _⟩
theorem two_below (w : World) : Below w.heap.size w ((w.alloc (.cells (madeCells #[.int .u8 0] 256) 5)).alloc (.cells #[.slice (some ⟨w.heap.size, 0, none⟩) 256 256] 28)).drew :=
  (((Below.refl _ _).alloc (Nat.le_refl _) _).alloc (by simp) _).drew

def RDsk.new (n : Nat) : RDsk := { safe := List.replicate n (zs 256), now := List.replicate n (zs 256), wet := List.replicate n false, fuse := -1, count := 0 }
theorem Making.done {w0 w : World} {n cS cN : Nat} {AS AN : Option Addr} {xs ys : List Value} (h : Making w0 w n n n AS cS AN cN xs ys) (h0 : 1 ≤ n) (h1 : n ≤ 65536) :
    ∃ q : RPl, q.d = w0.heap.size + 1 ∧ w0.heap.size ≤ q.gS ∧ w0.heap.size ≤ q.gN ∧ q.gW = w0.heap.size ∧ RefAt w q (RDsk.new n) := by
  obtain ⟨gS, c1, e1, _⟩ := World.ownsRow.form h.ownS (by omega)
  obtain ⟨gN, c2, e2, _⟩ := World.ownsRow.form h.ownN (by omega)
  cases e1
  cases e2
  obtain ⟨r1, b1⟩ := Row.of_own h.ownS
  obtain ⟨r2, b2⟩ := Row.of_own h.ownN
  have en : (RDsk.new n).now.length = n := by simp [RDsk.new]
  refine ⟨⟨w0.heap.size + 1, gS, gN, w0.heap.size, cS, cN, xs, ys⟩, rfl, b1, b2, rfl, ⟨?_, ?_, ?_, h.wet, h.apart _ _ rfl rfl, h.okS, h.okN, ?_, ?_, ?_, ?_⟩⟩
  · rw [en]; exact h.head
  · rw [en]; exact r1
  · rw [en]; exact r2
  · simp [RDsk.new]
  · simp [RDsk.new]
  · rw [en]; omega
  · rw [en]; omega
theorem rnew_out (n : Int) (h : n < 1 ∨ 65536 < n) (w : World) : Calls Try.prog 7 #[.int .i64 n] w fun e w' => e = .returned (.pointer none) ∧ w = w' := by
  rcases Int.lt_or_le n 1 with h0 | h0
  · go_enter Try.func7, Try.ntmps7
    go_wp2
    go_ret
    exact ⟨rfl, rfl⟩
  · have h1 : 65536 < n := by omega
    clear h
    go_enter Try.func7, Try.ntmps7
    go_wp2
    go_ret
    exact ⟨rfl, rfl⟩

set_option maxHeartbeats 2000000 in
theorem rnew_in (n : Nat) (h0 : 1 ≤ n) (h1 : n ≤ 65536) (w : World) : Calls Try.prog 7 #[.int .i64 n] w fun e w' =>
    e = .returned (.pointer (some ⟨w.heap.size + 1, 0, none⟩)) ∧ (∃ q : RPl, q.d = w.heap.size + 1 ∧ w.heap.size ≤ q.gS ∧ w.heap.size ≤ q.gN ∧ q.gW = w.heap.size ∧ RefAt w' q (RDsk.new n)) ∧ Below w.heap.size w w' := by
  obtain ⟨i0, hi0, hz0, hz1, hz2⟩ := info_parts Try.infoBs
  have hM := Try.makeBools n h1
  have hM2 := Try.prog_make 256 (by omega)
  rw [show ((256 : Nat) : Int) = 256 from rfl] at hM2
  go_enter Try.func7, Try.ntmps7
  go_wp2
  go_loopw [4] (fun i wr => ∃ (k : Nat) (AS : Option Addr) (cS : Nat) (AN : Option Addr) (cN : Nat) (xs ys : List Value), k ≤ n ∧ i = .int .i64 k ∧ Making w wr n k k AS cS AN cN xs ys) (fun i _ => n - (intOf i).toNat)
  case atStart =>
    have hw : Blk ((w.alloc (.cells (Array.replicate n (Value.bool false)) 4)).alloc (.cells #[.slice none 0 0, .slice none 0 0, .slice (some ⟨w.heap.size, 0, none⟩) n n, .int .i64 (-1), .int .i64 0] 38)) w.heap.size 4 ((List.replicate n false).map Value.bool).toArray := by
      have := (Blk.new w 4 (Array.replicate n (Value.bool false))).alloc (.cells #[.slice none 0 0, .slice none 0 0, .slice (some ⟨w.heap.size, 0, none⟩) n n, .int .i64 (-1), .int .i64 0] 38)
      simpa using this
    have hd : Blk ((w.alloc (.cells (Array.replicate n (Value.bool false)) 4)).alloc (.cells #[.slice none 0 0, .slice none 0 0, .slice (some ⟨w.heap.size, 0, none⟩) n n, .int .i64 (-1), .int .i64 0] 38)) (w.heap.size + 1) 38 #[.slice none 0 0, .slice none 0 0, .slice (some ⟨w.heap.size, 0, none⟩) n n, .int .i64 (-1), .int .i64 0] := by
      have := Blk.new (w.alloc (.cells (Array.replicate n (Value.bool false)) 4)) 38 #[.slice none 0 0, .slice none 0 0, .slice (some ⟨w.heap.size, 0, none⟩) n n, .int .i64 (-1), .int .i64 0]
      simpa using this
    exact ⟨0, none, 0, none, 0, [], [], by omega, rfl, ⟨hd, hw, World.ownsRow_nil _ _ _ _, World.ownsRow_nil _ _ _ _, (fun a b ha => by cases ha), ⟨rfl, by simp⟩, ⟨rfl, by simp⟩, ((Below.refl _ _).alloc (Nat.le_refl _) _).alloc (by simp) _⟩⟩
  case round =>
    obtain ⟨k, AS, cS, AN, cN, xs, ys, hk, rfl, hMk⟩ := hrel
    by_cases hlt : k < n
    · have hki : (k : Int) < n := by omega
      have d0 := hMk.head.cell 0
      have d1 := hMk.head.cell 1
      have f0 := hMk.head.frozen 0
      have f1 := hMk.head.frozen 1
      simp at d0 d1
      have hb0 := hMk.below.size
      have hds := hMk.head.lt
      have hds0 : w.heap.size < wr.heap.size := by omega
      go_wp2
      go_region_law ((refine step_append_lies _ (by rfl) _ _ _ (by rfl) w.heap.size 28 i0 _ 1 24 Try.underlying36 hi0 hz0 hz1 hz2 rfl (by omega) _ _ xs (by rfl) (((hMk.ownS.alloc _).alloc _).drew) ⟨wr.heap.size + 1, 0, none⟩ 1 1 [.slice (some ⟨wr.heap.size, 0, none⟩) 256 256] (by rfl) (by rfl) (World.news_of_block (two_new wr)) (by simp [Value.oneCell']) (by omega) (by unfold maxLen; omega) (by omega) (by simp; omega) (wr.heap.size + 2) (by simp) ?_; intro gg cap w1 hown1 hgrow hat hlt1; have b1 := hMk.afterS (two_below wr) hgrow; have g0 := b1.cell 0; simp at g0; have k0 := b1.frozen 0))
      all_goals
        have hM1 := hMk.stepS (two_below wr) (two_byt wr) hown1 hgrow (by simpa using hat)
        clear hMk hown1 hgrow hat hlt1 b1 g0 k0 d0 d1 f0 f1 hb0 hds hds0
        revert hM1
        generalize (w1.setCell _ _) = w2
        intro hM1
        have d1 := hM1.head.cell 1
        have f1 := hM1.head.frozen 1
        simp at d1
        have hb0 := hM1.below.size
        have hds := hM1.head.lt
        have hds0 : w.heap.size < w2.heap.size := by omega
        go_wp2
        go_region_law ((refine step_append_lies _ (by rfl) _ _ _ (by rfl) w.heap.size 28 i0 _ 1 24 Try.underlying36 hi0 hz0 hz1 hz2 rfl (by omega) _ _ ys (by rfl) (((hM1.ownN.alloc _).alloc _).drew) ⟨w2.heap.size + 1, 0, none⟩ 1 1 [.slice (some ⟨w2.heap.size, 0, none⟩) 256 256] (by rfl) (by rfl) (World.news_of_block (two_new w2)) (by simp [Value.oneCell']) (by omega) (by unfold maxLen; omega) (by omega) (by simp; omega) (w2.heap.size + 2) (by simp) ?_; intro gg2 cap2 w3 hown3 hgrow3 hat3 hlt3; have b3 := hM1.afterN (two_below w2) hgrow3; have g3 := b3.cell 1; simp at g3; have k3 := b3.frozen 1))
        all_goals
          have hM3 := Lib.hid (hM1.stepN (two_below w2) (two_byt w2) hown3 hgrow3 (by simpa using hat3))
          clear hM1 hown3 hgrow3 hat3 hlt3 b3 g3 k3 d1 f1 hb0 hds hds0
          go_wp2
          go_roundw
          case rel => exact ⟨k + 1, _, _, _, _, _, _, by omega, by go_num, hM3.out⟩
          case measure => simp [intOf]; omega
    · obtain rfl : k = n := by omega
      have hq : ¬ ((k : Int) < k) := by omega
      have HM := Lib.hid hMk
      clear hMk hlt
      go_wp2
      go_ret
      exact ⟨rfl, HM.out.done h0 h1, HM.out.below⟩
end Go.Proofs.Ytpfijfflfgfojaa
