/-
  Contracts of the reference's Crash and Image.
-/
import Derived.Test.YtpfijfflfgfojaaRef3
namespace Go.Proofs.Ytpfijfflfgfojaa
open Go.RowKit

/-- The slice value .slice A m c holds the bools l. -/
def RdB (w : World) (A : Option Addr) (m : Nat) (l : List Bool) : Prop :=
  m = l.length ∧ (m = 0 ∨ ∃ b off, A = some ⟨b, off, none⟩ ∧ b < w.heap.size ∧ ∀ k x, l[k]? = some x → w.cell? ⟨b, off + k, none⟩ = some (.bool x))
theorem RdB.keep {w w' : World} {A : Option Addr} {m : Nat} {l : List Bool} (h : RdB w A m l) (hs : w.heap.size ≤ w'.heap.size) (hk : ∀ ad, A = some ad → w'.heap[ad.block]? = w.heap[ad.block]?) : RdB w' A m l := by
  obtain ⟨h1, h4⟩ := h
  refine ⟨h1, ?_⟩
  rcases h4 with h4 | ⟨b, off, rfl, h4, h5⟩
  · exact .inl h4
  · exact .inr ⟨b, off, rfl, by omega, fun k x hx => (World.cell?_of_block (a := ⟨b, off + k, none⟩) (hk ⟨b, off, none⟩ rfl)).trans (h5 k x hx)⟩
theorem RdB.below {w w' : World} {A : Option Addr} {m : Nat} {l : List Bool} (h : RdB w A m l) (hb : Below w.heap.size w w') : RdB w' A m l := by
  obtain ⟨h1, h4⟩ := h
  refine ⟨h1, ?_⟩
  rcases h4 with h4 | ⟨b, off, rfl, h4, h5⟩
  · exact .inl h4
  · exact .inr ⟨b, off, rfl, Nat.lt_of_lt_of_le h4 hb.size, fun k x hx => (World.cell?_of_block (a := ⟨b, off + k, none⟩) (hb.block b h4)).trans (h5 k x hx)⟩

def RDsk.leftOf (s : RDsk) (kp : List Bool) : List (List UInt8) := s.now.mapIdx fun i x => if s.wet.getD i false && kp.getD i false then x else s.safe.getD i []
def RDsk.crashTo (s : RDsk) (kp : List Bool) (k j : Nat) : RDsk :=
  { RDsk.new s.now.length with safe := (s.leftOf kp).take k ++ (List.replicate s.now.length (zs 256)).drop k, now := (s.leftOf kp).take j ++ (List.replicate s.now.length (zs 256)).drop j }
theorem RDsk.crashTo_zero (s : RDsk) (kp : List Bool) : s.crashTo kp 0 0 = RDsk.new s.now.length := by simp [RDsk.crashTo, RDsk.new]
theorem RDsk.leftOf_len (s : RDsk) (kp : List Bool) : (s.leftOf kp).length = s.now.length := by simp [RDsk.leftOf]
theorem RDsk.crashTo_len (s : RDsk) (kp : List Bool) (k j : Nat) (h : j ≤ s.now.length) : (s.crashTo kp k j).now.length = s.now.length := by
  simp [RDsk.crashTo, RDsk.leftOf_len]; omega

/-- One store into the one row, one into the other. -/
theorem RefAt.two {w : World} {p : RPl} {s : RDsk} {k : Nat} {v : Value} {l : List UInt8} (h : RefAt w p s) (hv : Byt w v (some l)) (hl : l.length = 256) (hk : k < s.now.length) :
    RefAt ((w.setCell ⟨p.gS, k, none⟩ v).setCell ⟨p.gN, k, none⟩ v) { p with vs := p.vs.set k v, vn := p.vn.set k v } { s with safe := s.safe.set k l, now := s.now.set k l } := by
  obtain ⟨n1, n2, n3, n4, n5⟩ := h.ne
  obtain ⟨r1, r2, r3, r4⟩ := h.noRow
  have ht : Turn [p.gS, p.gN] w ((w.setCell ⟨p.gS, k, none⟩ v).setCell ⟨p.gN, k, none⟩ v) := ((Turn.refl _ _).setCell (.inl (by simp)) _).setCell (.inl (by simp)) _
  have hS : ∀ x ∈ [p.gS, p.gN], NoRow w x := by intro x hx; simp at hx; rcases hx with rfl | rfl <;> assumption
  have e : (s.now.set k l).length = s.now.length := by simp
  refine ⟨?_, ?_, ?_, ?_, h.apart, ?_, ?_, ?_, ?_, ?_, ?_⟩
  · simp only [e]; exact h.head.turn ht (by simp; exact ⟨n1, n2⟩)
  · simp only [e]; exact (h.rowS.set_ k _).turn (S := [p.gN]) ((Turn.refl _ _).setCell (.inl (by simp)) _) (by simpa using h.apart)
  · simp only [e]; exact (h.rowN.turn (S := [p.gS]) ((Turn.refl _ _).setCell (.inl (by simp)) _) (by simpa using Ne.symm h.apart)).set_ k _
  · exact h.rowW.turn ht (by simp; exact ⟨n4.symm, n5.symm⟩)
  · exact (h.safeOk.set_ k hv hl).turn ht hS
  · exact (h.nowOk.set_ k hv hl).turn ht hS
  · simp only [e]; simp [h.lenS]
  · simp only [e]; exact h.lenW
  · simp only [e]; exact h.pos
  · simp only [e]; exact h.most
theorem RDsk.crashTo_succ (s : RDsk) (kp : List Bool) (k : Nat) (h : k < s.now.length) :
    { s.crashTo kp k k with safe := (s.crashTo kp k k).safe.set k ((s.leftOf kp)[k]'(by rw [RDsk.leftOf_len]; exact h)), now := (s.crashTo kp k k).now.set k ((s.leftOf kp)[k]'(by rw [RDsk.leftOf_len]; exact h)) } = s.crashTo kp (k + 1) (k + 1) := by
  have := set_next (s.leftOf kp) (List.replicate s.now.length (zs 256)) k (by rw [RDsk.leftOf_len]; exact h) (by simpa using h)
  simp only [RDsk.crashTo, RDsk.new]
  rw [this]

def RDsk.crash (s : RDsk) (kp : List Bool) : RDsk := { RDsk.new s.now.length with safe := s.leftOf kp, now := s.leftOf kp }
theorem RDsk.crashTo_all (s : RDsk) (kp : List Bool) : s.crashTo kp s.now.length s.now.length = s.crash kp := by
  have : (s.leftOf kp).take s.now.length = s.leftOf kp := by rw [← RDsk.leftOf_len s kp, List.take_length]
  simp [RDsk.crashTo, RDsk.crash, this]

/-- One round's end. -/
theorem rcrash_round {w wr : World} {p q : RPl} {s : RDsk} {kp : List Bool} {k : Nat} {v : Value} (hq : RefAt wr q (s.crashTo kp k k)) (hp : RefAt wr p s) (hb : Below w.heap.size w wr) (hk : k < s.now.length)
    (hS : w.heap.size ≤ q.gS) (hN : w.heap.size ≤ q.gN) (hlt : p.d < w.heap.size ∧ p.gS < w.heap.size ∧ p.gN < w.heap.size ∧ p.gW < w.heap.size)
    (hv : Byt wr v (some ((s.leftOf kp)[k]'(by rw [RDsk.leftOf_len]; exact hk)))) (hl : ((s.leftOf kp)[k]'(by rw [RDsk.leftOf_len]; exact hk)).length = 256) :
    RefAt ((wr.setCell ⟨q.gS, k, none⟩ v).setCell ⟨q.gN, k, none⟩ v) { q with vs := q.vs.set k v, vn := q.vn.set k v } (s.crashTo kp (k + 1) (k + 1)) ∧
    RefAt ((wr.setCell ⟨q.gS, k, none⟩ v).setCell ⟨q.gN, k, none⟩ v) p s ∧ Below w.heap.size w ((wr.setCell ⟨q.gS, k, none⟩ v).setCell ⟨q.gN, k, none⟩ v) := by
  have h1 := hq.two hv hl (by rw [RDsk.crashTo_len _ _ _ _ (by omega)]; exact hk)
  rw [RDsk.crashTo_succ s kp k hk] at h1
  have ht : Turn [q.gS, q.gN] wr ((wr.setCell ⟨q.gS, k, none⟩ v).setCell ⟨q.gN, k, none⟩ v) := ((Turn.refl _ _).setCell (.inl (by simp)) _).setCell (.inl (by simp)) _
  refine ⟨h1, hp.turn ht ?_ ?_ ?_ ?_ ?_, (hb.setCell hS _).setCell hN _⟩
  any_goals (simp; omega)
  intro x hx; simp at hx; rcases hx with rfl | rfl
  · exact hq.noRow.2.1
  · exact hq.noRow.2.2.1

theorem RDsk.leftOf_now (s : RDsk) (kp : List Bool) (k : Nat) (h : k < s.now.length) (hw : s.wet[k]? = some true) (hk : kp[k]? = some true) : (s.leftOf kp)[k]'(by rw [RDsk.leftOf_len]; exact h) = s.now[k] := by
  simp [RDsk.leftOf, List.getD, hw, hk]
theorem RDsk.leftOf_safe (s : RDsk) (kp : List Bool) (k : Nat) (h : k < s.now.length) (hs : s.safe.length = s.now.length) (hw : s.wet[k]? = some false ∨ kp[k]? = none ∨ kp[k]? = some false) :
    (s.leftOf kp)[k]'(by rw [RDsk.leftOf_len]; exact h) = s.safe[k] := by
  rcases hw with hw | hw | hw <;> simp [RDsk.leftOf, List.getD, hw, hs, h]

set_option maxHeartbeats 4000000 in
theorem rcrash_any (p : RPl) (s : RDsk) (A : Option Addr) (m c : Nat) (kp : List Bool) (w : World) (h : RefAt w p s) (hkp : RdB w A m kp) (hm : m ≤ 9223372036854775807) :
    Calls Try.prog 17 #[.pointer (some ⟨p.d, 0, none⟩), .slice A m c] w fun e w' =>
      e = .returned (.pointer (some ⟨w.heap.size + 1, 0, none⟩)) ∧ (∃ q : RPl, q.d = w.heap.size + 1 ∧ w.heap.size ≤ q.gS ∧ w.heap.size ≤ q.gN ∧ q.gW = w.heap.size ∧ RefAt w' q (s.crash kp)) ∧ Below w.heap.size w w' := by
  have hN := Lib.hid (rnew_in s.now.length h.pos h.most w)
  have hn := h.most
  have hlS := Lib.hid h.lenS
  have hlW := Lib.hid h.lenW
  have ll := And.intro h.head.lt (And.intro h.rowS.lt (And.intro h.rowN.lt h.rowW.lt))
  have d1 := h.head.cell 1
  simp at d1
  go_enter Try.func17, Try.ntmps17
  go_wp2_with (go_at_call 7; (with_reducible refine hN.out.mono ?_); rintro e w1 ⟨rfl, ⟨q0, hqd, hqS, hqN, hqW, hA1⟩, hb⟩)
  have H1 := h.below hb
  have hqd' := Lib.hid hqd
  have hqW' := Lib.hid hqW
  have HKp := Lib.hid hkp
  clear hqd hqW h hkp d1 hN
  go_loopw [6] (fun i wr => ∃ (k : Nat) (q : RPl), k ≤ s.now.length ∧ i = .int .i64 k ∧ (q.d = w.heap.size + 1 ∧ w.heap.size ≤ q.gS ∧ w.heap.size ≤ q.gN ∧ q.gW = w.heap.size) ∧ RefAt wr q (s.crashTo kp k k) ∧ RefAt wr p s ∧ Below w.heap.size w wr) (fun i _ => s.now.length - (intOf i).toNat)
  case atStart => exact ⟨0, q0, by omega, rfl, ⟨hqd'.out, hqS, hqN, hqW'.out⟩, by rw [RDsk.crashTo_zero]; exact hA1, H1, hb⟩
  case round =>
    obtain ⟨k, q, hk, rfl, ⟨qd, qS, qN, qW⟩, hQ, hP, hB⟩ := hrel
    clear hA1 H1 hb
    have d0 := hP.head.cell 0
    have d1 := hP.head.cell 1
    have d2 := hP.head.cell 2
    simp at d0 d1 d2
    by_cases hlt : k < s.now.length
    · have hki : (k : Int) < s.now.length := by omega
      have hk0 : (0 : Int) ≤ k := by omega
      have x0 := hQ.head.cell 0
      have x1 := hQ.head.cell 1
      rw [qd, RDsk.crashTo_len _ _ _ _ (by omega)] at x0 x1
      simp at x0 x1
      obtain ⟨gn, cn, hvn, byn, lnn⟩ := hP.nowOk.at_ (i := k) hlt
      have hks : k < s.safe.length := by rw [hP.lenS]; exact hlt
      obtain ⟨gs, cs, hvs, bys, lns⟩ := hP.safeOk.at_ (i := k) hks
      have c0 := hP.rowS.get hvs
      have c1 := hP.rowN.get hvn
      have c2 := hP.rowW.cell k
      obtain ⟨bw, hbw⟩ : ∃ bw, s.wet[k]? = some bw := ⟨_, List.getElem?_eq_getElem (by rw [hP.lenW]; exact hlt)⟩
      rw [List.getElem?_toArray, List.getElem?_map, hbw] at c2
      simp at c2
      obtain ⟨g3, c3, hu3⟩ := hQ.safeOk.form (i := k) (by rw [hQ.lenS, RDsk.crashTo_len _ _ _ _ (by omega)]; exact hlt)
      obtain ⟨g4, c4, hu4⟩ := hQ.nowOk.form (i := k) (by rw [RDsk.crashTo_len _ _ _ _ (by omega)]; exact hlt)
      have y0 := hQ.rowS.get hu3
      have y1 := hQ.rowN.get hu4
      have f0 := hQ.rowS.frozen k
      have f1 := hQ.rowN.frozen k
      obtain ⟨n1, n2, n3, n4, n5⟩ := hQ.ne
      rw [qd] at n1 n2
      have e2 := fun (W : World) (j i : Nat) (v : Value) => cell_far (d := q.gN) (L := q.gS) W j i v (Ne.symm hQ.apart)
      have e3 := fun (W : World) (j i : Nat) (v : Value) => cell_far (d := w.heap.size + 1) (L := q.gS) W j i v n1
      have Hbyn := Lib.hid byn
      have Hbys := Lib.hid bys
      have Hlnn := Lib.hid lnn
      have Hlns := Lib.hid lns
      have HQ := Lib.hid hQ
      have HP := Lib.hid hP
      have HR := Lib.hid (HKp.out.below hB)
      have Hqd := Lib.hid qd
      have HqW := Lib.hid qW
      have Hbw := Lib.hid hbw
      have HlS := Lib.hid hP.lenS
      clear hQ hP qd qW hbw byn bys lnn lns hvn hvs hu3 hu4 n3 n4 n5
      cases bw with
      | false =>
        go_wp2
        go_roundw
        case rel =>
          have hlf := RDsk.leftOf_safe s kp k hlt HlS.out (.inl Hbw.out)
          obtain ⟨z1, z2, z3⟩ := rcrash_round (v := .slice (some ⟨gs, 0, none⟩) 256 cs) HQ.out HP.out hB hlt qS qN ll (by rw [hlf]; exact Hbys.out) (by rw [hlf]; exact Hlns.out)
          exact ⟨k + 1, { q with vs := q.vs.set k (.slice (some ⟨gs, 0, none⟩) 256 cs), vn := q.vn.set k (.slice (some ⟨gs, 0, none⟩) 256 cs) }, by omega, by go_num, ⟨Hqd.out, qS, qN, HqW.out⟩, z1, z2, z3⟩
        case measure => simp [intOf]; omega
      | true =>
        by_cases hkm : k < m
        · have hkmi : (k : Int) < m := by omega
          obtain ⟨h1, h2⟩ := HR.out
          rcases h2 with ⟨_, h2⟩ | ⟨ba, oa, hAe, hbl, hcl⟩
          · omega
          · rw [hAe]
            obtain ⟨x, hx⟩ : ∃ x, kp[k]? = some x := ⟨_, List.getElem?_eq_getElem (by omega)⟩
            have ck := hcl k x hx
            have Hx := Lib.hid hx
            have HAe := Lib.hid hAe
            clear hx hcl h1 hAe
            cases x with
            | false =>
              go_wp2
              go_roundw
              case rel =>
                have hlf := RDsk.leftOf_safe s kp k hlt HlS.out (.inr (.inr Hx.out))
                obtain ⟨z1, z2, z3⟩ := rcrash_round (v := .slice (some ⟨gs, 0, none⟩) 256 cs) HQ.out HP.out hB hlt qS qN ll (by rw [hlf]; exact Hbys.out) (by rw [hlf]; exact Hlns.out)
                exact ⟨k + 1, { q with vs := q.vs.set k (.slice (some ⟨gs, 0, none⟩) 256 cs), vn := q.vn.set k (.slice (some ⟨gs, 0, none⟩) 256 cs) }, by omega, by go_num, ⟨Hqd.out, qS, qN, HqW.out⟩, z1, z2, z3⟩
              case measure => simp [intOf]; omega
            | true =>
              go_wp2
              go_roundw
              case rel =>
                have hlf := RDsk.leftOf_now s kp k hlt Hbw.out Hx.out
                obtain ⟨z1, z2, z3⟩ := rcrash_round (v := .slice (some ⟨gn, 0, none⟩) 256 cn) HQ.out HP.out hB hlt qS qN ll (by rw [hlf]; exact Hbyn.out) (by rw [hlf]; exact Hlnn.out)
                exact ⟨k + 1, { q with vs := q.vs.set k (.slice (some ⟨gn, 0, none⟩) 256 cn), vn := q.vn.set k (.slice (some ⟨gn, 0, none⟩) 256 cn) }, by omega, by go_num, ⟨Hqd.out, qS, qN, HqW.out⟩, z1, z2, z3⟩
              case measure => simp [intOf]; omega
        · have hkmi : (m : Int) ≤ k := by omega
          have hkn : kp[k]? = none := by rw [List.getElem?_eq_none]; have := HR.out.1; omega
          have Hkn := Lib.hid hkn
          clear hkn
          go_wp2
          go_roundw
          case rel =>
            have hlf := RDsk.leftOf_safe s kp k hlt HlS.out (.inr (.inl Hkn.out))
            obtain ⟨z1, z2, z3⟩ := rcrash_round (v := .slice (some ⟨gs, 0, none⟩) 256 cs) HQ.out HP.out hB hlt qS qN ll (by rw [hlf]; exact Hbys.out) (by rw [hlf]; exact Hlns.out)
            exact ⟨k + 1, { q with vs := q.vs.set k (.slice (some ⟨gs, 0, none⟩) 256 cs), vn := q.vn.set k (.slice (some ⟨gs, 0, none⟩) 256 cs) }, by omega, by go_num, ⟨Hqd.out, qS, qN, HqW.out⟩, z1, z2, z3⟩
          case measure => simp [intOf]; omega
    · obtain rfl : k = s.now.length := by omega
      rw [RDsk.crashTo_all] at hQ
      have hq : ¬ ((s.now.length : Int) < s.now.length) := by omega
      have HQ := Lib.hid hQ
      have Hqd := Lib.hid qd
      have HqW := Lib.hid qW
      clear hQ hlt qd qW
      go_wp2
      go_ret
      exact ⟨rfl, ⟨q, Hqd.out, qS, qN, HqW.out, HQ.out⟩, hB⟩

/-! ### Image -/
def RDsk.imageTo (s : RDsk) (k : Nat) : List UInt8 := (s.now.take k).flatten
def RDsk.image (s : RDsk) : List UInt8 := s.now.flatten
theorem RDsk.imageTo_all (s : RDsk) : s.imageTo s.now.length = s.image := by simp [imageTo, image]
theorem RDsk.imageTo_succ (s : RDsk) (k : Nat) (h : k < s.now.length) : s.imageTo (k + 1) = s.imageTo k ++ s.now[k] := by
  unfold imageTo
  rw [List.take_succ_eq_append_getElem h, List.flatten_append]
  simp
theorem RDsk.imageTo_len {w : World} {p : RPl} {s : RDsk} (h : RefAt w p s) (k : Nat) (hk : k ≤ s.now.length) : (s.imageTo k).length = k * 256 := by
  induction k with
  | zero => rfl
  | succ k ih =>
    obtain ⟨_, _, _, _, hl⟩ := h.nowOk.at_ (i := k) (by omega)
    rw [RDsk.imageTo_succ s k (by omega), List.length_append, ih (by omega), hl]; omega
set_option maxHeartbeats 1000000 in
theorem rimage_any (p : RPl) (s : RDsk) (w : World) (h : RefAt w p s) :
    Calls Try.prog 20 #[.pointer (some ⟨p.d, 0, none⟩)] w fun e w' => ∃ v', e = .returned v' ∧ Own w' w.heap.size v' s.image ∧ Below w.heap.size w w' := by
  obtain ⟨i0, hi, hz0, hz1, hz2⟩ := info_parts Try.infoU8
  have hlen := h.most
  go_enter Try.func20, Try.ntmps20
  go_wp2
  go_loopw [3, 4] (fun v i wr => ∃ k : Nat, k ≤ s.now.length ∧ i = .int .i64 k ∧ Own wr w.heap.size v (s.imageTo k) ∧ Below w.heap.size w wr) (fun _ i _ => s.now.length - (intOf i).toNat)
  case atStart => exact ⟨0, by omega, rfl, World.ownsRow_nil _ _ _ _, Below.refl _ _⟩
  case round =>
    obtain ⟨k, hk, rfl, hown, hbel⟩ := hrel
    have hA := h.below hbel
    have d1 := hA.head.cell 1
    simp at d1
    by_cases hlt : k < s.now.length
    · have hki : (k : Int) < s.now.length := by omega
      have hk0 : (0 : Int) ≤ k := by omega
      have Hil := Lib.hid (RDsk.imageTo_len h k hk)
      have hsucc := Lib.hid (RDsk.imageTo_succ s k hlt)
      obtain ⟨g, c, hv, hby, hrl⟩ := hA.nowOk.at_ (i := k) hlt
      have c1 := hA.rowN.get hv
      have hcs := Lib.hid (hby.1.at_.adds)
      have Hrl := Lib.hid hrl
      have HH := Lib.hid h
      clear hA h hrl hv hby
      go_wp2_with (at_builtin; refine wpList_append_own _ rfl _ _ 28 rfl w.heap.size 5 i0 (.int .u8 0) 1 1 Try.underlying28 hi hz0 hz1 hz2 rfl (by decide) _ _ _ rfl hown ⟨g, 0, none⟩ 256 c (s.now[k].map B) rfl ?c1 hcs.out (map_one _) ?c3 ?c4 ?c5 ?_)
      case c1 => rw [List.length_map, Hrl.out]
      case c3 => rw [Hil.out]; unfold maxLen; omega
      case c4 => rw [Hil.out]; omega
      case c5 => exact hbel.size
      intro v' w2 ho hg _
      have HO : Own w2 w.heap.size v' (s.imageTo (k + 1)) := by
        rw [hsucc.out]
        unfold Own
        rw [List.length_append, Hrl.out, List.map_append]
        exact ho
      have HB : Below w.heap.size w w2 := hbel.grown hg hbel.size (fun j hj => (hown.lt hj).1)
      clear ho hg hown hcs hbel
      go_wp2
      go_roundw
      case rel => exact ⟨k + 1, by omega, by go_num, HO, HB⟩
      case measure => simp [intOf]; omega
    · obtain rfl : k = s.now.length := by omega
      rw [RDsk.imageTo_all] at hown
      have hq : ¬ ((s.now.length : Int) < s.now.length) := by omega
      clear hA hlt
      go_wp2
      go_ret
      exact ⟨_, rfl, hown, hbel⟩
end Go.Proofs.Ytpfijfflfgfojaa
