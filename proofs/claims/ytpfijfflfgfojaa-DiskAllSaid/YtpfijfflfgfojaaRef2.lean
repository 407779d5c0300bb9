/-
  Contracts of the reference's Write and Sync.
-/
import Derived.Test.YtpfijfflfgfojaaRef1
namespace Go.Proofs.Ytpfijfflfgfojaa
open Go.RowKit

def RDsk.put (s : RDsk) (i : Nat) (l : List UInt8) : RDsk := { s with now := s.now.set i l, wet := s.wet.set i true }

theorem rwrite_no (p : RPl) (s : RDsk) (i : Int) (A : Option Addr) (n c : Nat) (w : World) (h : RefAt w p s) (hn : s.dead = true ∨ i < 0 ∨ (s.now.length : Int) ≤ i ∨ n ≠ 256) :
    Calls Try.prog 10 #[.pointer (some ⟨p.d, 0, none⟩), .int .i64 i, .slice A n c] w fun e w' => e = .returned (.bool false) ∧ w = w' := by
  have h0 := h.head.cell 1
  simp at h0
  have hD := rdead_any p s w h
  clear h
  cases hd : s.dead with
  | true =>
    rw [hd] at hD
    clear hn hd
    go_enter Try.func10, Try.ntmps10
    go_wp2_with (go_at_call 30; (with_reducible refine hD.mono ?_); rintro e w' ⟨rfl, rfl⟩)
    go_ret
    exact ⟨rfl, rfl⟩
  | false =>
    rw [hd] at hD hn
    clear hd
    simp only [Bool.false_eq_true, false_or] at hn
    rcases Int.lt_or_le i 0 with g0 | g0
    · clear hn
      go_enter Try.func10, Try.ntmps10
      go_wp2_with (go_at_call 30; (with_reducible refine hD.mono ?_); rintro e w' ⟨rfl, rfl⟩)
      go_ret
      exact ⟨rfl, rfl⟩
    · rcases Int.lt_or_le i s.now.length with g1 | g1
      · have g2 : n ≠ 256 := by omega
        clear hn
        have g3 : ((n : Int) != 256) = true := by simp; omega
        clear g2
        go_enter Try.func10, Try.ntmps10
        go_wp2_with (go_at_call 30; (with_reducible refine hD.mono ?_); rintro e w' ⟨rfl, rfl⟩)
        go_ret
        exact ⟨rfl, rfl⟩
      · clear hn
        go_enter Try.func10, Try.ntmps10
        go_wp2_with (go_at_call 30; (with_reducible refine hD.mono ?_); rintro e w' ⟨rfl, rfl⟩)
        go_ret
        exact ⟨rfl, rfl⟩

/-- What the two stores leave. -/
theorem RefAt.put {w w1 : World} {p : RPl} {s : RDsk} {i g c : Nat} {l : List UInt8} (h : RefAt w p s) (hb : Below w.heap.size w w1) (ho : Own w1 w.heap.size (.slice (some ⟨g, 0, none⟩) 256 c) l) (hl : l.length = 256) :
    RefAt ((w1.setCell ⟨p.gN, i, none⟩ (.slice (some ⟨g, 0, none⟩) 256 c)).setCell ⟨p.gW, i, none⟩ (.bool true)) { p with vn := p.vn.set i (.slice (some ⟨g, 0, none⟩) 256 c) } (s.put i l) := by
  have h' := h.below hb
  obtain ⟨n1, n2, n3, n4, n5⟩ := h'.ne
  obtain ⟨r1, r2, r3, r4⟩ := h'.noRow
  have ht : Turn [p.gN, p.gW] w1 ((w1.setCell ⟨p.gN, i, none⟩ (.slice (some ⟨g, 0, none⟩) 256 c)).setCell ⟨p.gW, i, none⟩ (.bool true)) := ((Turn.refl _ _).setCell (.inl (by simp)) _).setCell (.inl (by simp)) _
  have hS : ∀ x ∈ [p.gN, p.gW], NoRow w1 x := by intro x hx; simp at hx; rcases hx with rfl | rfl <;> assumption
  have hbyt : Byt w1 (.slice (some ⟨g, 0, none⟩) 256 c) (some l) := ⟨ho.mono (Nat.zero_le _), slice_ne_nil _ _ _⟩
  have e : (s.put i l).now.length = s.now.length := by simp [RDsk.put]
  refine ⟨?_, ?_, ?_, ?_, h.apart, ?_, ?_, ?_, ?_, ?_, ?_⟩
  · rw [e]; exact h'.head.turn ht (by simp; exact ⟨n2, n3⟩)
  · rw [e]; exact h'.rowS.turn ht (by simp; exact ⟨h.apart, n4⟩)
  · rw [e]; exact (h'.rowN.set_ i _).turn (S := [p.gW]) ((Turn.refl _ _).setCell (.inl (by simp)) _) (by simpa using n5)
  · have := (h'.rowW.far (p := ⟨p.gN, i, none⟩) (Ne.symm n5) (.slice (some ⟨g, 0, none⟩) 256 c)).set_ i (.bool true)
    rw [List.setIfInBounds_toArray, ← List.map_set] at this
    exact this
  · exact h'.safeOk.turn ht hS
  · exact (h'.nowOk.set_ i hbyt hl).turn ht hS
  · rw [e]; exact h.lenS
  · rw [e]; simp [RDsk.put, h.lenW]
  · rw [e]; exact h.pos
  · rw [e]; exact h.most

set_option maxHeartbeats 1000000 in
theorem rwrite_in (p : RPl) (s : RDsk) (w : World) (h : RefAt w p s) (hdead : s.dead = false) (i : Nat) (hi : i < s.now.length) (b off c : Nat) (l : List UInt8) (hb : At w b off l) (hl : l.length = 256)
    (hc : s.count < 1000000) (hf : s.fuse ≤ 9223372036854775807) :
    Calls Try.prog 10 #[.pointer (some ⟨p.d, 0, none⟩), .int .i64 i, .slice (some ⟨b, off, none⟩) 256 c] w fun e w' =>
      e = .returned (.bool true) ∧ (∃ q : RPl, q.d = p.d ∧ q.gS = p.gS ∧ q.gN = p.gN ∧ q.gW = p.gW ∧ RefAt w' q (s.put i l).step) ∧ Turn [p.d, p.gS, p.gN, p.gW] w w' := by
  obtain ⟨i0, hi0, hz0, hz1, hz2⟩ := info_parts Try.infoU8
  have h0 := h.head.cell 1
  have h2 := h.head.cell 2
  simp at h0 h2
  have hD := rdead_any p s w h
  rw [hdead] at hD
  obtain ⟨n1, n2, n3, n4, n5⟩ := h.ne
  obtain ⟨gv, cv, hv, _⟩ := h.nowOk.at_ hi
  have h1 := h.rowN.get hv
  have h3 := h.rowW.cell i
  have hiw : i < s.wet.length := by rw [h.lenW]; exact hi
  simp [hiw] at h3
  have f1 := h.rowN.frozen i
  have f3 := h.rowW.frozen i
  have hlen := h.most
  have hii : (i : Int) < s.now.length := by omega
  have h00 : (0 : Int) ≤ i := by omega
  have hcs := hb.adds
  have ld := h.head.lt
  have lN := h.rowN.lt
  have lW := h.rowW.lt
  have e3 := fun (w : World) (j k : Nat) (v : Value) => cell_far (d := p.d) (L := p.gN) w j k v n2
  have e4 := fun (w : World) (j k : Nat) (v : Value) => cell_far (d := p.gW) (L := p.gN) w j k v n5.symm
  clear hv hdead
  go_enter Try.func10, Try.ntmps10
  go_wp2_with (go_at_call 30; (with_reducible refine hD.mono ?_); rintro e w' ⟨rfl, rfl⟩)
  go_region_held3 (fun w' => w'.cell? ⟨p.d, 1, none⟩ = some (.slice (some ⟨p.gN, 0, none⟩) s.now.length p.cN)) (first | go_keep | exact (hbel.cell (p := ⟨p.d, 1, none⟩) ld).trans h0)
    ((refine step_append_lies _ (by rfl) _ _ _ (by rfl) w.heap.size 5 i0 _ 1 1 Try.underlying28 hi0 hz0 hz1 hz2 rfl (by omega) _ _ [] (by rfl) (World.ownsRow_nil w.drew _ _ _) ⟨b, off, none⟩ 256 c (l.map B) (by rfl) (by simp [hl]) hcs (map_one l)
        (by omega) (by unfold maxLen; omega) (by omega) (by exact Nat.le_refl _) w.heap.size (by rfl) ?_; intro gg cap w1 hown1 hgrow hat hlt; have hbel : Below w.heap.size w w1 := ((Below.refl _ w).drew).grown hgrow (Nat.le_refl _) (by intro k hk; cases hk); have g1 := (hbel.cell (p := ⟨p.gN, i, none⟩) lN).trans h1; have k1 := (hbel.frozen (p := ⟨p.gN, i, none⟩) lN).trans f1; have g2 := (hbel.cell (p := ⟨p.d, 2, none⟩) ld).trans h2; have g3 := (hbel.cell (p := ⟨p.gW, i, none⟩) lW).trans h3; have k3 := (hbel.frozen (p := ⟨p.gW, i, none⟩) lW).trans f3))
  have hO : Own w1 w.heap.size (.slice (some ⟨gg, 0, none⟩) 256 cap) l := by
    unfold Own
    rw [hl]
    simpa using hown1
  have hP := h.put (i := i) hbel hO hl
  have hT : Turn [p.d, p.gS, p.gN, p.gW] w ((w1.setCell ⟨p.gN, i, none⟩ (.slice (some ⟨gg, 0, none⟩) 256 cap)).setCell ⟨p.gW, i, none⟩ (.bool true)) :=
    ((Turn.of_below _ hbel).setCell (.inl (by simp)) _).setCell (.inl (by simp)) _
  have hst := Lib.hid (rstep_any { p with vn := p.vn.set i (.slice (some ⟨gg, 0, none⟩) 256 cap) } _ _ hP hc hf)
  have HT := Lib.hid hT
  clear h hP hT hO hown1 hgrow hat hcs hb h0 h1 h2 h3 hD f1 f3
  go_wp2_with (go_at_call 31; (with_reducible refine hst.out.mono ?_); rintro e w' ⟨rfl, hA, hB⟩)
  go_ret
  exact ⟨rfl, ⟨{ p with vn := p.vn.set i (.slice (some ⟨gg, 0, none⟩) 256 cap) }, rfl, rfl, rfl, rfl, hA⟩, HT.out.trans hB (fun x hx => .inl (by simp at hx; simp [hx]))⟩

/-! ### Sync -/
def RDsk.sync (s : RDsk) : RDsk := { s with safe := s.now, wet := s.wet.map fun _ => false }
def RDsk.syncTo (s : RDsk) (k : Nat) : RDsk := { s with safe := s.now.take k ++ s.safe.drop k, wet := (s.wet.take k).map (fun _ => false) ++ s.wet.drop k }
theorem RDsk.syncTo_all (s : RDsk) (h1 : s.safe.length = s.now.length) (h2 : s.wet.length = s.now.length) : s.syncTo s.now.length = s.sync := by
  simp only [RDsk.syncTo, RDsk.sync, RDsk.mk.injEq, and_true, true_and]
  refine ⟨by rw [← h1, List.drop_length, List.append_nil, h1, List.take_length], by rw [← h2, List.drop_length, List.append_nil, List.take_length]⟩
theorem set_next {α : Type} (a b : List α) (k : Nat) (h1 : k < a.length) (h2 : k < b.length) : (a.take k ++ b.drop k).set k a[k] = a.take (k + 1) ++ b.drop (k + 1) := by
  apply List.ext_getElem?
  intro j
  rw [List.getElem?_set]
  have hl : (a.take k).length = k := by simp; omega
  have hl1 : (a.take (k + 1)).length = k + 1 := by simp; omega
  by_cases hj : k = j
  · subst hj
    rw [if_pos rfl, if_pos (by simp; omega), List.getElem?_append_left (by omega), List.getElem?_take, if_pos (by omega), List.getElem?_eq_getElem h1]
  · rw [if_neg hj]
    rcases Nat.lt_or_ge j k with h | h
    · rw [List.getElem?_append_left (by omega), List.getElem?_append_left (by omega), List.getElem?_take, List.getElem?_take, if_pos h, if_pos (by omega)]
    · rw [List.getElem?_append_right (by omega), List.getElem?_append_right (by omega), hl, hl1, List.getElem?_drop, List.getElem?_drop]
      congr 1; omega

/-- What the two stores of one round leave. -/
theorem RefAt.syn {w : World} {p : RPl} {s : RDsk} {k : Nat} {v : Value} (h : RefAt w p (s.syncTo k)) (h1 : s.safe.length = s.now.length) (h2 : s.wet.length = s.now.length) (hk : k < s.now.length) (hv : p.vn[k]? = some v) :
    RefAt ((w.setCell ⟨p.gS, k, none⟩ v).setCell ⟨p.gW, k, none⟩ (.bool false)) { p with vs := p.vs.set k v } (s.syncTo (k + 1)) := by
  obtain ⟨n1, n2, n3, n4, n5⟩ := h.ne
  obtain ⟨r1, r2, r3, r4⟩ := h.noRow
  have ht : Turn [p.gS, p.gW] w ((w.setCell ⟨p.gS, k, none⟩ v).setCell ⟨p.gW, k, none⟩ (.bool false)) := ((Turn.refl _ _).setCell (.inl (by simp)) _).setCell (.inl (by simp)) _
  have hS : ∀ x ∈ [p.gS, p.gW], NoRow w x := by intro x hx; simp at hx; rcases hx with rfl | rfl <;> assumption
  have hkn : s.now[k]? = some s.now[k] := List.getElem?_eq_getElem hk
  obtain ⟨hbyt, hl⟩ := h.nowOk.2 k v _ hv hkn
  refine ⟨?_, ?_, ?_, ?_, h.apart, ?_, ?_, ?_, ?_, h.pos, h.most⟩
  · exact h.head.turn ht (by simp; exact ⟨n1, n3⟩)
  · exact (h.rowS.set_ k _).turn (S := [p.gW]) ((Turn.refl _ _).setCell (.inl (by simp)) _) (by simpa using n4)
  · exact h.rowN.turn ht (by simp; exact ⟨Ne.symm h.apart, n5⟩)
  · have := (h.rowW.far (p := ⟨p.gS, k, none⟩) (Ne.symm n4) v).set_ k (.bool false)
    rw [List.setIfInBounds_toArray, ← List.map_set] at this
    have e : (s.syncTo k).wet.set k false = (s.syncTo (k + 1)).wet := by
      have := set_next (s.wet.map fun _ => false) s.wet k (by simp; omega) (by omega)
      simpa [RDsk.syncTo, List.map_take] using this
    rw [e] at this
    exact this
  · have e : (s.syncTo k).safe.set k s.now[k] = (s.syncTo (k + 1)).safe := set_next s.now s.safe k hk (by omega)
    have := (h.safeOk.set_ k hbyt hl).turn ht hS
    rw [e] at this
    exact this
  · exact h.nowOk.turn ht hS
  · simp [RDsk.syncTo]; omega
  · simp [RDsk.syncTo]; omega

theorem rsync_dead (p : RPl) (s : RDsk) (w : World) (h : RefAt w p s) (hd : s.dead = true) : Calls Try.prog 12 #[.pointer (some ⟨p.d, 0, none⟩)] w fun e w' => e = .returned (.bool false) ∧ w = w' := by
  have hD := rdead_any p s w h
  rw [hd] at hD
  clear h hd
  go_enter Try.func12, Try.ntmps12
  go_wp2_with (go_at_call 30; (with_reducible refine hD.mono ?_); rintro e w' ⟨rfl, rfl⟩)
  go_ret
  exact ⟨rfl, rfl⟩
set_option maxHeartbeats 2000000 in
theorem rsync_any (p : RPl) (s : RDsk) (w : World) (h : RefAt w p s) (hdead : s.dead = false) (hc : s.count < 1000000) (hf : s.fuse ≤ 9223372036854775807) :
    Calls Try.prog 12 #[.pointer (some ⟨p.d, 0, none⟩)] w fun e w' =>
      e = .returned (.bool true) ∧ (∃ q : RPl, q.d = p.d ∧ q.gS = p.gS ∧ q.gN = p.gN ∧ q.gW = p.gW ∧ RefAt w' q s.sync.step) ∧ Turn [p.d, p.gS, p.gN, p.gW] w w' := by
  have hD := rdead_any p s w h
  rw [hdead] at hD
  have hlen := h.most
  have hlS := h.lenS
  have hlW := h.lenW
  have s0 : s.syncTo 0 = s := by simp [RDsk.syncTo]
  have HS := Lib.hid s0
  have HlS := Lib.hid hlS
  have HlW := Lib.hid hlW
  clear hdead s0 hlS hlW
  go_enter Try.func12, Try.ntmps12
  go_wp2_with (go_at_call 30; (with_reducible refine hD.mono ?_); rintro e w' ⟨rfl, rfl⟩)
  go_loopw [3] (fun i wr => ∃ (k : Nat) (q : RPl), k ≤ s.now.length ∧ i = .int .i64 k ∧ (q.d = p.d ∧ q.gS = p.gS ∧ q.gN = p.gN ∧ q.gW = p.gW) ∧ RefAt wr q (s.syncTo k) ∧ Turn [p.gS, p.gW] w wr) (fun i _ => s.now.length - (intOf i).toNat)
  case atStart => exact ⟨0, p, by omega, rfl, ⟨rfl, rfl, rfl, rfl⟩, by rw [HS.out]; exact h, Turn.refl _ _⟩
  case round =>
    obtain ⟨k, q, hk, rfl, ⟨qd, qS, qN, qW⟩, hA, hT⟩ := hrel
    rw [← qd]
    rw [← qS, ← qW] at hT
    have HQ := Lib.hid (And.intro qd (And.intro qS (And.intro qN qW)))
    clear qd qS qN qW h hD
    obtain ⟨n1, n2, n3, n4, n5⟩ := hA.ne
    have h0 := hA.head.cell 0
    have h1 := hA.head.cell 1
    have h2 := hA.head.cell 2
    simp [RDsk.syncTo] at h0 h1 h2
    have e1 := fun (w : World) (j k : Nat) (v : Value) => cell_far (d := q.d) (L := q.gS) w j k v n1
    have e2 := fun (w : World) (j k : Nat) (v : Value) => cell_far (d := q.gN) (L := q.gS) w j k v (Ne.symm hA.apart)
    have e3 := fun (w : World) (j k : Nat) (v : Value) => cell_far (d := q.gW) (L := q.gS) w j k v (Ne.symm n4)
    by_cases hlt : k < s.now.length
    · have hki : (k : Int) < s.now.length := by omega
      have hk0 : (0 : Int) ≤ k := by omega
      obtain ⟨gv, cv, hv⟩ := hA.nowOk.form (i := k) hlt
      obtain ⟨gu, cu, hu⟩ := hA.safeOk.form (i := k) (by rw [hA.lenS]; exact hlt)
      have c1 := hA.rowN.get hv
      have c2 := hA.rowS.get hu
      have c3 := hA.rowW.cell k
      have hwl : k < (s.syncTo k).wet.length := by rw [hA.lenW]; exact hlt
      obtain ⟨bw, hbw⟩ : ∃ bw, (s.syncTo k).wet[k]? = some bw := ⟨_, List.getElem?_eq_getElem hwl⟩
      rw [List.getElem?_toArray, List.getElem?_map, hbw] at c3
      simp at c3
      have f2 := hA.rowS.frozen k
      have f3 := hA.rowW.frozen k
      have hP := Lib.hid (hA.syn HlS.out HlW.out hlt hv)
      have HT := Lib.hid ((hT.setCell (p := ⟨q.gS, k, none⟩) (.inl (by simp)) (.slice (some ⟨gv, 0, none⟩) 256 cv)).setCell (p := ⟨q.gW, k, none⟩) (.inl (by simp)) (.bool false))
      clear hA hT hv hu hbw hwl
      go_wp2
      go_region_held3 (fun w' => w'.cell? ⟨q.d, 0, none⟩ = some (.slice (some ⟨q.gS, 0, none⟩) s.now.length q.cS) ∧ w'.cell? ⟨q.d, 1, none⟩ = some (.slice (some ⟨q.gN, 0, none⟩) s.now.length q.cN) ∧ w'.cell? ⟨q.gN, k, none⟩ = some (.slice (some ⟨gv, 0, none⟩) 256 cv)) (go_keep) (first | fail)
      go_wp2
      go_roundw
      case rel =>
        have ht := HT.out
        rw [HQ.out.2.1, HQ.out.2.2.2] at ht
        refine ⟨k + 1, { q with vs := q.vs.set k (.slice (some ⟨gv, 0, none⟩) 256 cv) }, by omega, by go_num, ⟨rfl, HQ.out.2.1, HQ.out.2.2.1, HQ.out.2.2.2⟩, hP.out.drew, ?_⟩
        rw [HQ.out.2.1, HQ.out.2.2.2]
        exact ht.drew
      case measure => simp [intOf]; omega
    · obtain rfl : k = s.now.length := by omega
      rw [RDsk.syncTo_all s HlS.out HlW.out] at hA
      have hst := Lib.hid (rstep_any q _ _ hA hc hf)
      have hq : ¬ ((s.now.length : Int) < s.now.length) := by omega
      have HT := Lib.hid hT
      clear hA hT h0 h2 hlt
      go_wp2_with (go_at_call 31; (with_reducible refine hst.out.mono ?_); rintro e w' ⟨rfl, hA, hB⟩)
      go_ret
      refine ⟨rfl, ⟨q, HQ.out.1, HQ.out.2.1, HQ.out.2.2.1, HQ.out.2.2.2, hA⟩, (HT.out.more ?_).trans hB (fun x hx => .inl (by rw [HQ.out.1] at hx; simp at hx; simp [hx]))⟩
      intro x hx
      rw [HQ.out.2.1, HQ.out.2.2.2] at hx
      simp at hx
      simp
      rcases hx with h | h
      · exact .inr (.inl h)
      · exact .inr (.inr (.inr h))
end Go.Proofs.Ytpfijfflfgfojaa
