/-
  pins: the program's small functions, Put.
  bytes.Equal.
  pins: Check, Encode of the program.
  pins: Decode of the program.
-/
import Derived.Test.YtdgjjmaiibafhaaDoorDrC
import Derived.Test.YtdgjjmaiibafhaaDoorReg
namespace Go.Proofs.YtdgjjmaiibafhaaDoor
set_option maxRecDepth 100000
open Go.RowKit

/-- No PIN is set. -/
def PinNo (w : World) (p : Nat) : Prop := ∃ A2 n2 c2, Blk w p 49 #[.slice none 0 0, .slice A2 n2 c2, .int .i64 0]
/-- One is. -/
def PinYes (w : World) (p : Nat) (salt hash : List UInt8) (t : Nat) : Prop :=
  ∃ b1 o1 c1 A2 c2, Blk w p 49 #[.slice (some ⟨b1, o1, none⟩) 16 c1, .slice A2 32 c2, .int .i64 (t : Int)] ∧ Rd w (some ⟨b1, o1, none⟩) 16 c1 salt ∧ Rd w A2 32 c2 hash
def PinAt (w : World) (p : Nat) (s : PS) : Prop := (s.set = false ∧ s.tries = 0 ∧ PinNo w p) ∨ (s.set = true ∧ PinYes w p s.salt s.hash s.tries)
theorem PinAt.lt {w : World} {p : Nat} {s : PS} (h : PinAt w p s) : p < w.heap.size := by
  rcases h with ⟨_, _, _, _, _, h⟩ | ⟨_, _, _, _, _, _, h, _⟩
  · exact h.lt
  · exact h.lt
theorem PinAt.noB {w : World} {p : Nat} {s : PS} (h : PinAt w p s) : NoB w p := by
  rcases h with ⟨_, _, _, _, _, h⟩ | ⟨_, _, _, _, _, _, h, _⟩
  · exact NoB.of h rfl
  · exact NoB.of h rfl
theorem PinAt.below {w w' : World} {p : Nat} {s : PS} (h : PinAt w p s) (hb : Below w.heap.size w w') : PinAt w' p s := by
  rcases h with ⟨h1, h2, A2, n2, c2, h⟩ | ⟨h1, b1, o1, c1, A2, c2, h, h3, h4⟩
  · exact .inl ⟨h1, h2, A2, n2, c2, h.below hb⟩
  · exact .inr ⟨h1, b1, o1, c1, A2, c2, h.below hb, h3.below hb, h4.below hb⟩
theorem PinAt.turn {w w' : World} {p : Nat} {s : PS} {S : List Nat} (h : PinAt w p s) (ht : Turn S w w') (hd : p ∉ S) (hS : ∀ g ∈ S, NoB w g) : PinAt w' p s := by
  rcases h with ⟨h1, h2, A2, n2, c2, h⟩ | ⟨h1, b1, o1, c1, A2, c2, h, h3, h4⟩
  · exact .inl ⟨h1, h2, A2, n2, c2, h.turn ht hd⟩
  · exact .inr ⟨h1, b1, o1, c1, A2, c2, h.turn ht hd, h3.turnN (by decide) ht hS, h4.turnN (by decide) ht hS⟩
theorem nePin (w : World) (a : Addr) : (binOp .eql 25 (.pointer (some a)) (.pointer none)).run Tryd.prog w = .ok (.bool false) w := by kernel_rfl
theorem nePin' (w : World) (a : Addr) : (binOp .neq 25 (.pointer (some a)) (.pointer none)).run Tryd.prog w = .ok (.bool true) w := by kernel_rfl
theorem neSl0 (w : World) : (binOp .neq 22 (.slice none 0 0) (.slice none 0 0)).run Tryd.prog w = .ok (.bool false) w := by kernel_rfl
theorem neSl1 (w : World) (a : Addr) (n c : Nat) : (binOp .neq 22 (.slice (some a) n c) (.slice none 0 0)).run Tryd.prog w = .ok (.bool true) w := by kernel_rfl
theorem is_no (w : World) : Calls Tryd.prog 10 #[.pointer none] w fun e w' => e = .returned (.bool false) ∧ w = w' := by
  go_enter Tryd.func10, Tryd.ntmps10
  go_wp2_with fail
  go_ret
  exact ⟨rfl, rfl⟩
theorem pis_any (p : Nat) (s : PS) (w : World) (h : PinAt w p s) : Calls Tryd.prog 10 #[.pointer (some ⟨p, 0, none⟩)] w fun e w' => e = .returned (.bool s.set) ∧ w = w' := by
  have k1 := nePin'
  have k2 := neSl0
  have k3 := neSl1
  rcases h with ⟨h1, h2, A2, n2, c2, h⟩ | ⟨h1, b1, o1, c1, A2, c2, h, h3, h4⟩
  · have q0 := h.cell 0
    simp at q0
    rw [h1]
    clear h h1 h2
    go_enter Tryd.func10, Tryd.ntmps10
    go_wp2_with fail
    go_ret
    exact ⟨rfl, rfl⟩
  · have q0 := h.cell 0
    simp at q0
    rw [h1]
    clear h h1 h3 h4
    go_enter Tryd.func10, Tryd.ntmps10
    go_wp2_with fail
    go_ret
    exact ⟨rfl, rfl⟩
theorem PinAt.tries {w : World} {p : Nat} {s : PS} (h : PinAt w p s) : w.cell? ⟨p, 2, none⟩ = some (.int .i64 (s.tries : Int)) := by
  rcases h with ⟨h1, h2, A2, n2, c2, h⟩ | ⟨h1, b1, o1, c1, A2, c2, h, h3, h4⟩
  · have q := h.cell 2
    rw [h2]; simpa using q
  · have q := h.cell 2
    simpa using q
theorem tries_any (p : Nat) (s : PS) (w : World) (h : PinAt w p s) : Calls Tryd.prog 21 #[.pointer (some ⟨p, 0, none⟩)] w fun e w' => e = .returned (.int .i64 (s.tries : Int)) ∧ w = w' := by
  have q := h.tries
  have k := nePin
  clear h
  go_enter Tryd.func21, Tryd.ntmps21
  go_wp2_with fail
  go_ret
  exact ⟨rfl, rfl⟩
theorem tries_no (w : World) : Calls Tryd.prog 21 #[.pointer none] w fun e w' => e = .returned (.int .i64 0) ∧ w = w' := by
  go_enter Tryd.func21, Tryd.ntmps21
  go_wp2_with fail
  go_ret
  exact ⟨rfl, rfl⟩
theorem locked_no (w : World) : Calls Tryd.prog 22 #[.pointer none] w fun e w' => e = .returned (.bool false) ∧ w = w' := by
  have h := tries_no w
  go_enter Tryd.func22, Tryd.ntmps22
  go_wp2_with fail
  refine h.mono ?_
  rintro e w' ⟨rfl, rfl⟩
  go_wp2_with fail
  go_ret
  exact ⟨rfl, rfl⟩
theorem locked_any (p : Nat) (s : PS) (w : World) (h : PinAt w p s) : Calls Tryd.prog 22 #[.pointer (some ⟨p, 0, none⟩)] w fun e w' => e = .returned (.bool (decide (3 ≤ s.tries))) ∧ w = w' := by
  have h := tries_any p s w h
  obtain ⟨t, ht⟩ : ∃ t, s.tries = t := ⟨_, rfl⟩
  rw [ht] at h ⊢
  obtain ⟨b, hb⟩ : ∃ b, decide (3 ≤ t) = b := ⟨_, rfl⟩
  have hbi : decide ((3 : Int) ≤ (t : Int)) = b := by rw [← hb]; congr 1; exact propext (by omega)
  rw [hb]
  clear ht hb
  go_enter Tryd.func22, Tryd.ntmps22
  go_wp2_with fail
  refine h.mono ?_
  rintro e w' ⟨rfl, rfl⟩
  go_wp2_with fail
  go_ret
  exact ⟨rfl, rfl⟩
theorem pnew_any (w : World) : Calls Tryd.prog 11 #[] w fun e w' => ∃ p, e = .returned (.pointer (some ⟨p, 0, none⟩)) ∧ PinAt w' p PS.none ∧ w.heap.size ≤ p ∧ Old w w' := by
  go_enter Tryd.func11, Tryd.ntmps11
  go_wp2_with fail
  go_ret
  exact ⟨_, rfl, .inl ⟨rfl, rfl, none, 0, 0, Blk.new _ _ _⟩, Nat.le_refl _, (Old.refl w).alloc _⟩
theorem clear_no (w : World) : Calls Tryd.prog 18 #[.pointer none] w fun e w' => e = .returned (.tuple #[]) ∧ w = w' := by
  go_enter Tryd.func18, Tryd.ntmps18
  go_wp2_with fail
  refine bodyPost_end (results_none rfl _ _ _) rfl ?_
  exact ⟨rfl, rfl⟩
theorem clear_any (p : Nat) (s : PS) (w : World) (h : PinAt w p s) : Calls Tryd.prog 18 #[.pointer (some ⟨p, 0, none⟩)] w fun e w' => e = .returned (.tuple #[]) ∧ PinAt w' p PS.none ∧ Turn [p] w w' := by
  obtain ⟨u0, u1, u2, hB⟩ : ∃ u0 u1 u2, Blk w p 49 #[u0, u1, u2] := by
    rcases h with ⟨h1, h2, A2, n2, c2, h⟩ | ⟨h1, b1, o1, c1, A2, c2, h, h3, h4⟩
    · exact ⟨_, _, _, h⟩
    · exact ⟨_, _, _, h⟩
  have q0 := hB.cell 0
  have q1 := hB.cell 1
  have q2 := hB.cell 2
  have f0 := hB.frozen 0
  have f1 := hB.frozen 1
  have f2 := hB.frozen 2
  simp at q0 q1 q2
  have k := nePin'
  have H := Lib.hid hB
  clear hB h
  go_enter Tryd.func18, Tryd.ntmps18
  go_wp2_with fail
  refine bodyPost_end (results_none rfl _ _ _) rfl ?_
  refine ⟨rfl, .inl ⟨rfl, rfl, none, 0, 0, ?_⟩, ?_⟩
  · have := ((H.out.set_ 0 (.slice none 0 0)).set_ 1 (.slice none 0 0)).set_ 2 (.int .i64 0)
    simpa using this
  · exact (((Turn.refl [p] w).setCell (.inl (by simp)) _).setCell (.inl (by simp)) _).setCell (.inl (by simp)) _
theorem phash_any (A : Option Addr) (m c : Nat) (pin : List UInt8) (A2 : Option Addr) (m2 c2 : Nat) (salt : List UInt8) (w : World) (hr : Rd w A m c pin) (hp : pin.length ≤ 1000) (hr2 : Rd w A2 m2 c2 salt) (hs : salt.length ≤ 1000) (hT : KAt w) :
    Calls Tryd.prog 28 #[.slice A m c, .slice A2 m2 c2] w fun e w' => ∃ A c, e = .returned (.slice A 32 c) ∧ Rd w' A 32 c (pinH pin salt) ∧ Old w w' := by
  have hh := pb_all1 3 8 32 A m c pin A2 m2 c2 salt w hr hp hr2 hs hT
  have hl := pinH_len pin salt hp hs
  clear hr hp hr2 hs hT
  go_enter Tryd.func28, Tryd.ntmps28
  go_wp2_with fail
  refine hh.mono ?_
  rintro e w2 ⟨A3, n3, c3, rfl, hO3, hb3⟩
  have hn : n3 = 32 := by rw [hO3.1]; exact hl
  subst hn
  have H3 := Lib.hid (And.intro hO3 hb3)
  clear hh hO3 hb3 hl
  go_wp2_with fail
  go_ret
  exact ⟨A3, c3, rfl, H3.out.1, H3.out.2⟩
set_option maxHeartbeats 1000000 in
theorem put_any (p d : Nat) (s : PS) (ds : DS) (left : Int) (A : Option Addr) (m c : Nat) (pin : List UInt8) (w : World) (h : PinAt w p s) (hD : DrAt w d ds left) (hr : Rd w A m c pin) (hl0 : 0 ≤ left) (hl1 : left ≤ 1000000000) (hT : KAt w) (hd : d ≠ 1) (hpk : p ≠ 1) :
    Calls Tryd.prog 14 #[.pointer (some ⟨p, 0, none⟩), .slice A m c, .pointer (some ⟨d, 0, none⟩)] w fun e w' => ∃ left', left ≤ left' ∧ left' ≤ left + 1 ∧ e = .returned (.int .i64 (s.put ds pin).1) ∧ PinAt w' p (s.put ds pin).2.1 ∧ DrAt w' d (s.put ds pin).2.2 left' ∧ Turn [p, d] w w' := by
  have k1 := nePin
  have k2 := neDrbg
  have hm : m = pin.length := hr.1
  unfold PS.put
  by_cases hlen : pin.length < 4 ∨ 64 < pin.length
  · rw [if_pos hlen]
    have H := Lib.hid (And.intro h (And.intro hD True.intro))
    by_cases h4 : m < 4
    · have t1 : (m : Int) < 4 := by omega
      have t1d : decide ((m : Int) < 4) = true := decide_eq_true t1
      clear h hD hr hT hm hlen h4
      go_enter Tryd.func14, Tryd.ntmps14
      go_wp2_with fail
      go_ret
      exact ⟨left, by omega, by omega, rfl, H.out.1, H.out.2.1, Turn.refl _ _⟩
    · have t1 : ¬ (m : Int) < 4 := by omega
      have t1d : decide ((m : Int) < 4) = false := decide_eq_false t1
      have t2 : (64 : Int) < m := by omega
      have t2d : decide ((64 : Int) < m) = true := decide_eq_true t2
      clear h hD hr hT hm hlen h4
      go_enter Tryd.func14, Tryd.ntmps14
      go_wp2_with fail
      go_ret
      exact ⟨left, by omega, by omega, rfl, H.out.1, H.out.2.1, Turn.refl _ _⟩
  · rw [if_neg hlen]
    have t1 : ¬ (m : Int) < 4 := by omega
    have t1d : decide ((m : Int) < 4) = false := decide_eq_false t1
    have t2 : ¬ (64 : Int) < m := by omega
    have t2d : decide ((64 : Int) < m) = false := decide_eq_false t2
    have hp4 : 0 < m := by omega
    have hpl : pin.length ≤ 1000 := by omega
    obtain ⟨u0, u1, u2, hB, hnB⟩ : ∃ u0 u1 u2, Blk w p 49 #[u0, u1, u2] ∧ (#[u0, u1, u2] : Array Value).toList.all Value.noByte = true := by
      rcases h with ⟨h1, h2, A2, n2, c2, h⟩ | ⟨h1, b1, o1, c1, A2, c2, h, h3, h4⟩
      · exact ⟨_, _, _, h, rfl⟩
      · exact ⟨_, _, _, h, rfl⟩
    have hpd : p ≠ d := by
      obtain ⟨_, _, _, _, hB2, _⟩ := hD
      exact Blk.ne_ hB hB2 (by decide)
    have hby := bytes_any d ds left 16 w hD (by omega) (by omega) hl0 hl1 hT hd
    have hbl := DS.bytes_len hD.ok 16
    obtain ⟨salt, ds', hbs⟩ : ∃ salt ds', ds.bytes 16 = (salt, ds') := ⟨_, _, rfl⟩
    rw [hbs] at hby hbl ⊢
    simp only at hby hbl ⊢
    obtain ⟨PH, hPH⟩ : ∃ PH, pinH pin salt = PH := ⟨_, rfl⟩
    rw [hPH]
    have HPH := Lib.hid hPH
    clear hPH
    have H := Lib.hid (And.intro hB (And.intro hr (And.intro hT (And.intro hpd (And.intro hd (And.intro hpk (And.intro hp4 (And.intro hpl (And.intro hbl (And.intro hnB hD.noB))))))))))
    clear h hB hnB hD hr hT hm hlen hpd hd hpk hp4 hpl hbl hbs
    go_enter Tryd.func14, Tryd.ntmps14
    go_wp2_with fail
    refine hby.mono ?_
    rintro e w1 ⟨A1, rfl, r1, hf1, hD1, hT1⟩
    obtain ⟨b1, o1, rfl, hat1⟩ := r1.addr (by omega)
    have hB1 := Blk.turn H.out.1 hT1 (by simp; exact H.out.2.2.2.1)
    have f0 := hB1.frozen 0
    have q0 := hB1.cell 0
    simp at q0
    obtain ⟨w2, hw2⟩ : ∃ w2, w1.setCell ⟨p, 0, none⟩ (.slice (some ⟨b1, o1, none⟩) 16 16) = w2 := ⟨_, rfl⟩
    have hB2 : Blk w2 p 49 #[.slice (some ⟨b1, o1, none⟩) 16 16, u1, u2] := by
      rw [← hw2]
      have := hB1.set_ 0 (.slice (some ⟨b1, o1, none⟩) 16 16)
      simpa using this
    have hTp : Turn [p] w1 w2 := by
      rw [← hw2]
      exact (Turn.refl _ _).setCell (.inl (by simp)) _
    have hNp : NoB w1 p := NoB.of hB1 H.out.2.2.2.2.2.2.2.2.2.1
    have r2 : Rd w2 (some ⟨b1, o1, none⟩) 16 16 salt := r1.turnN (by decide) hTp (one_noB p hNp)
    have hD2 : DrAt w2 d ds' (left + 1) := hD1.turn hTp (by simp; exact fun e => H.out.2.2.2.1 e.symm) (one_noB p hNp)
    have hp2 : Rd w2 A m c pin := (H.out.2.1.turnN H.out.2.2.2.2.2.2.1 hT1 (one_noB d H.out.2.2.2.2.2.2.2.2.2.2)).turnN H.out.2.2.2.2.2.2.1 hTp (one_noB p hNp)
    have hK2 : KAt w2 := (H.out.2.2.1.turn hT1 (by simp; exact fun e => H.out.2.2.2.2.1 e.symm)).turn hTp (by simp; exact fun e => H.out.2.2.2.2.2.1 e.symm)
    have hph := phash_any A m c pin (some ⟨b1, o1, none⟩) 16 16 salt w2 hp2 H.out.2.2.2.2.2.2.2.1 r2 (by rw [H.out.2.2.2.2.2.2.2.2.1]; omega) hK2
    rw [HPH.out] at hph
    have hTw : Turn [p, d] w w2 := (hT1.more (by simp)).trans hTp (fun x hx => .inl (by simp at hx; simp [hx]))
    have q0' : w2.cell? ⟨p, 0, none⟩ = some (.slice (some ⟨b1, o1, none⟩) 16 16) := by have := hB2.cell 0; simpa using this
    rw [← hw2] at q0'
    have H2 := Lib.hid (And.intro hB2 (And.intro r2 (And.intro hD2 (And.intro hTw hw2))))
    clear hby hB1 hB2 hTp hNp r1 hf1 hD1 hT1 hat1 r2 hD2 hp2 hK2 hTw hw2
    go_wp2_with fail
    rw [H2.out.2.2.2.2]
    refine hph.mono ?_
    rintro e w3 ⟨A3, c3, rfl, r3, hO3⟩
    have hB3 := Blk.below H2.out.1 hO3
    have f1 := hB3.frozen 1
    have f2 := hB3.frozen 2
    have q1 := hB3.cell 1
    have q2 := hB3.cell 2
    simp at q1 q2
    have H3 := Lib.hid (And.intro hB3 (And.intro r3 hO3))
    clear hph hB3 r3 hO3 q0'
    go_wp2_with fail
    go_ret
    have ht3 : Turn [p] w3 ((w3.setCell ⟨p, 1, none⟩ (.slice A3 32 c3)).setCell ⟨p, 2, none⟩ (.int .i64 0)) := ((Turn.refl [p] w3).setCell (.inl (by simp)) _).setCell (.inl (by simp)) _
    have hN3 : NoB w3 p := ⟨_, _, H3.out.1, fun u hu x => by
      have h3 := H.out.2.2.2.2.2.2.2.2.2.1
      simp [Value.noByte] at h3
      refine noByte_ne ?_ x
      simp at hu
      rcases hu with rfl | rfl | rfl
      · rfl
      · exact h3.2.1
      · exact h3.2.2⟩
    refine ⟨left + 1, by omega, by omega, rfl, .inr ⟨rfl, b1, o1, 16, A3, c3, ?_, (H2.out.2.1.below H3.out.2.2).turnN (by decide) ht3 (one_noB p hN3), H3.out.2.1.turnN (by decide) ht3 (one_noB p hN3)⟩, (H2.out.2.2.1.below H3.out.2.2).turn ht3 (by simp; exact fun e => H.out.2.2.2.1 e.symm) (one_noB p hN3), ?_⟩
    · have := (H3.out.1.set_ 1 (.slice A3 32 c3)).set_ 2 (.int .i64 0)
      simpa using this
    · exact (H2.out.2.2.2.1.trans (Turn.of_below [p] H3.out.2.2) (fun x hx => .inl (by simp at hx; simp [hx]))).trans ht3 (fun x hx => .inl (by simp at hx; simp [hx]))
end Go.Proofs.YtdgjjmaiibafhaaDoor
namespace Go.Proofs.YtdgjjmaiibafhaaDoor
set_option maxRecDepth 100000
open Go.RowKit

theorem equalB_any (A : Option Addr) (m c : Nat) (A' : Option Addr) (m' c' : Nat) (l l' : List UInt8) (w : World) (hr : Rd w A m c l) (hr' : Rd w A' m' c' l') :
    Calls Tryd.prog 32 #[.slice A m c, .slice A' m' c'] w fun e w' => (e = .returned (.bool (decide (l = l')))) ∧ w = w' := by
  have s1 := hr.str
  have s2 := hr'.str
  clear hr hr'
  by_cases he : l = l'
  · rw [decide_eq_true he]
    subst he
    go_enter Tryd.func32, Tryd.ntmps32
    go_wp2
    go_ret
    exact ⟨by first | rfl | simp, rfl⟩
  · rw [decide_eq_false he]
    have hn : (⟨l.toArray⟩ : ByteArray) ≠ ⟨l'.toArray⟩ := fun e => he (by simpa using congrArg (fun b => b.data.toList) e)
    go_enter Tryd.func32, Tryd.ntmps32
    go_wp2
    go_ret
    exact ⟨by first | rfl | simp [he], rfl⟩
end Go.Proofs.YtdgjjmaiibafhaaDoor
namespace Go.Proofs.YtdgjjmaiibafhaaDoor
set_option maxRecDepth 100000
open Go.RowKit

set_option maxHeartbeats 1000000 in
theorem check_any (p : Nat) (s : PS) (A : Option Addr) (m c : Nat) (pin : List UInt8) (w : World) (h : PinAt w p s) (hok : s.Ok) (hr : Rd w A m c pin) (hp : pin.length ≤ 1000) (hT : KAt w) :
    Calls Tryd.prog 16 #[.pointer (some ⟨p, 0, none⟩), .slice A m c] w fun e w' => e = .returned (.int .i64 (s.check pin).1) ∧ PinAt w' p (s.check pin).2 ∧ Turn [p] w w' := by
  have hi := pis_any p s w h
  have hlk := locked_any p s w h
  rcases h with ⟨h1, h2, h⟩ | ⟨h1, b1, o1, c1, A2, c2, hB, r1, r2⟩
  · have hc : s.check pin = (0x102, s) := by unfold PS.check; rw [if_pos h1]
    rw [hc]
    rw [h1] at hi
    have H := Lib.hid (show PinAt w p s from .inl ⟨h1, h2, h⟩)
    clear h hlk hr hT hc h1 h2
    go_enter Tryd.func16, Tryd.ntmps16
    go_wp2_with fail
    refine hi.mono ?_
    rintro e w' ⟨rfl, rfl⟩
    go_wp2_with fail
    go_ret
    exact ⟨rfl, H.out, Turn.refl _ _⟩
  · rw [h1] at hi
    by_cases h3 : 3 ≤ s.tries
    · have hc : s.check pin = (0xa4, s) := by unfold PS.check; rw [if_neg (by simp [h1]), if_pos h3]
      rw [hc]
      rw [decide_eq_true h3] at hlk
      have H := Lib.hid (show PinAt w p s from .inr ⟨h1, b1, o1, c1, A2, c2, hB, r1, r2⟩)
      clear hr hT hc h1 h3 hB r1 r2
      go_enter Tryd.func16, Tryd.ntmps16
      go_wp2_with fail
      refine hi.mono ?_
      rintro e w' ⟨rfl, rfl⟩
      go_wp2_with fail
      refine hlk.mono ?_
      rintro e w' ⟨rfl, rfl⟩
      go_wp2_with fail
      go_ret
      exact ⟨rfl, H.out, Turn.refl _ _⟩
    · rw [decide_eq_false h3] at hlk
      have q0 := hB.cell 0
      have q1 := hB.cell 1
      simp at q0 q1
      have htl : s.tries ≤ 3 := hok.tries
      have hsl := hok.salt h1
      have hchk : s.check pin = if pinH pin s.salt = s.hash then (0, { s with tries := 0 }) else (0xa0, { s with tries := s.tries + 1 }) := by unfold PS.check; rw [if_neg (by simp [h1]), if_neg h3]
      rw [hchk]
      obtain ⟨set, salt, hash, t⟩ := s
      simp only at *
      obtain ⟨PH, hPH⟩ : ∃ PH, pinH pin salt = PH := ⟨_, rfl⟩
      rw [hPH]
      have H := Lib.hid (And.intro hB (And.intro r1 (And.intro r2 (And.intro hr (And.intro hT (And.intro hPH (And.intro q0 (And.intro q1 (And.intro h1 (And.intro hp hsl))))))))))
      clear hr hT h1 h3 hB r1 r2 hPH hchk q0 q1 hp hsl hok
      by_cases heq : PH = hash
      · have hde : decide (PH = hash) = true := decide_eq_true heq
        rw [if_pos heq]
        clear heq
        go_enter Tryd.func16, Tryd.ntmps16
        go_wp2_with fail
        refine hi.mono ?_
        rintro e w' ⟨rfl, rfl⟩
        go_wp2_with fail
        refine hlk.mono ?_
        rintro e w' ⟨rfl, rfl⟩
        go_wp2_with fail
        clear hi hlk
        refine region_old (by kernel_rfl) (fun wd hHeld hSz => ?_)
        have HSz := Lib.hid hSz
        clear hSz
        refine takeL (i := 0) (v := ?_) rfl (by kernel_rfl) (by kernel_rfl) (by kernel_rfl) (fun _ _ _ h => h) (Or.inl ⟨by rfl, ?_⟩) hHeld ?_
        rotate_left
        focus (intro wq hSw; clear hSw; go_simp; try with_reducible rfl)
        try simp only [Act.put, List.setIfInBounds_toArray, List.set_cons_zero, List.set_cons_succ]
        refine takeL (i := 1) (v := ?_) rfl (by kernel_rfl) (by kernel_rfl) (by kernel_rfl) (fun _ _ _ h => h) (Or.inl ⟨by rfl, ?_⟩) hHeld ?_
        rotate_left
        focus (intro wq hSw; clear hSw; go_simp; try with_reducible rfl)
        try simp only [Act.put, List.setIfInBounds_toArray, List.set_cons_zero, List.set_cons_succ]
        refine takeL (i := 2) (v := ?_) rfl (by kernel_rfl) (by kernel_rfl) (by kernel_rfl) (fun _ _ _ h => h) (Or.inl ⟨by rfl, ?_⟩) hHeld ?_
        rotate_left
        focus (intro wq hSw; clear hSw; go_simp; try with_reducible rfl)
        try simp only [Act.put, List.setIfInBounds_toArray, List.set_cons_zero, List.set_cons_succ]
        refine takeL (i := 3) (v := ?_) rfl (by kernel_rfl) (by kernel_rfl) (by kernel_rfl) (fun _ _ _ h => h) (Or.inl ⟨by rfl, ?_⟩) hHeld ?_
        rotate_left
        focus (intro wq hSw; clear hSw; go_simp; try with_reducible rfl)
        try simp only [Act.put, List.setIfInBounds_toArray, List.set_cons_zero, List.set_cons_succ]
        refine takeL (i := 4) (v := ?_) rfl (by kernel_rfl) (by kernel_rfl) (by kernel_rfl) (fun _ _ _ h => h) (Or.inl ⟨by rfl, ?_⟩) hHeld ?_
        rotate_left
        focus (intro wq hSw; have q0 := cellOld hSw H.out.2.2.2.2.2.2.1; clear hSw; go_simp; try with_reducible rfl)
        try simp only [Act.put, List.setIfInBounds_toArray, List.set_cons_zero, List.set_cons_succ]
        refine takeL (i := 6) (v := ?_) rfl (by kernel_rfl) (by kernel_rfl) (by kernel_rfl) (fun _ _ _ h => h) (Or.inl ⟨by rfl, ?_⟩) hHeld ?_
        rotate_left
        focus (intro wq hSw; clear hSw; go_simp; try with_reducible rfl)
        try simp only [Act.put, List.setIfInBounds_toArray, List.set_cons_zero, List.set_cons_succ]
        refine takeL (i := 7) (v := ?_) rfl (by kernel_rfl) (by kernel_rfl) (by kernel_rfl) (fun _ _ _ h => h) (Or.inl ⟨by rfl, ?_⟩) hHeld ?_
        rotate_left
        focus (intro wq hSw; clear hSw; go_simp; try with_reducible rfl)
        try simp only [Act.put, List.setIfInBounds_toArray, List.set_cons_zero, List.set_cons_succ]
        refine takeL (i := 8) (v := ?_) rfl (by kernel_rfl) (by kernel_rfl) (by kernel_rfl) (fun _ _ _ h => h) (Or.inl ⟨by rfl, ?_⟩) hHeld ?_
        rotate_left
        focus (intro wq hSw; clear hSw; go_simp; try with_reducible rfl)
        try simp only [Act.put, List.setIfInBounds_toArray, List.set_cons_zero, List.set_cons_succ]
        refine takeL (i := 9) (v := ?_) rfl (by kernel_rfl) (by kernel_rfl) (by kernel_rfl) (fun _ _ _ h => h) (Or.inl ⟨by rfl, ?_⟩) hHeld ?_
        rotate_left
        focus (intro wq hSw; have q1 := cellOld hSw H.out.2.2.2.2.2.2.2.1; clear hSw; go_simp; try with_reducible rfl)
        try simp only [Act.put, List.setIfInBounds_toArray, List.set_cons_zero, List.set_cons_succ]
        refine wpAnyH_ready (rs := [5]) (by kernel_rfl) (by simp) ?_
        refine consL rfl (fun K hK => ?_) AllReadyH.nil
        go_simp
        refine (phash_any A m c pin (some ⟨b1, o1, none⟩) 16 c1 salt wd (H.out.2.2.2.1.below hHeld) H.out.2.2.2.2.2.2.2.2.2.1 (H.out.2.1.below hHeld) (by rw [H.out.2.2.2.2.2.2.2.2.2.2]; omega) (H.out.2.2.2.2.1.below hHeld)).mono ?_
        rintro e w3 ⟨A3, c3, rfl, r3, hO3⟩
        rw [H.out.2.2.2.2.2.1] at r3
        have hH3 := Old.trans hHeld hO3
        refine hK.out _ _ hH3 (fun hHeld => ?_)
        clear hK K
        try simp only [Act.put, List.setIfInBounds_toArray, List.set_cons_zero, List.set_cons_succ]
        refine wpAnyH_ready (rs := [10]) (by kernel_rfl) (by simp) ?_
        refine consL rfl (fun K hK => ?_) AllReadyH.nil
        go_simp
        refine (equalB_any A3 32 c3 A2 32 c2 PH hash _ r3 (H.out.2.2.1.below hHeld)).mono ?_
        rintro e w' ⟨rfl, rfl⟩
        refine hK.out _ _ hHeld (fun hHeld => ?_)
        clear hK K
        try simp only [Act.put, List.setIfInBounds_toArray, List.set_cons_zero, List.set_cons_succ]
        refine takeL (i := 11) (v := ?_) rfl (by kernel_rfl) (by kernel_rfl) (by kernel_rfl) (fun _ _ _ h => h) (Or.inl ⟨by rfl, ?_⟩) hHeld ?_
        rotate_left
        focus (intro wq hSw; clear hSw; go_simp; try with_reducible rfl)
        try simp only [Act.put, List.setIfInBounds_toArray, List.set_cons_zero, List.set_cons_succ]
        refine takeL (i := 12) (v := ?_) rfl (by kernel_rfl) (by kernel_rfl) (by kernel_rfl) (fun _ _ _ h => h) (Or.inl ⟨by rfl, ?_⟩) hHeld ?_
        rotate_left
        focus (intro wq hSw; clear hSw; go_simp; try with_reducible rfl)
        try simp only [Act.put, List.setIfInBounds_toArray, List.set_cons_zero, List.set_cons_succ]
        refine wpAnyH_done (by kernel_rfl) ?_ _
        refine NoPanic.normal ?_
        try simp only [Exit.then]
        clear r3 hO3 hH3
        have hB1 := Blk.below H.out.1 hHeld
        have f2 := hB1.frozen 2
        have q2 := hB1.cell 2
        simp at q2
        have r1' := H.out.2.1.below hHeld
        have r2' := H.out.2.2.1.below hHeld
        have H9 := Lib.hid (And.intro hB1 (And.intro r1' (And.intro r2' hHeld)))
        clear hB1 r1' r2' hHeld
        try simp only [hde, Bool.not_true]
        go_wp2_with fail
        go_ret
        have ht3 : Turn [p] w3 (w3.setCell ⟨p, 2, none⟩ (.int .i64 0)) := (Turn.refl [p] _).setCell (.inl (by simp)) _
        refine ⟨rfl, .inr ⟨H.out.2.2.2.2.2.2.2.2.1, b1, o1, c1, A2, c2, ?_, H9.out.2.1.turnN (by decide) ht3 (one_noB p (NoB.of H9.out.1 rfl)), H9.out.2.2.1.turnN (by decide) ht3 (one_noB p (NoB.of H9.out.1 rfl))⟩, (Turn.of_below [p] H9.out.2.2.2).trans ht3 (fun x hx => .inl hx)⟩
        have := H9.out.1.set_ 2 (.int .i64 0)
        simpa using this
      · have hde : decide (PH = hash) = false := decide_eq_false heq
        rw [if_neg heq]
        clear heq
        go_enter Tryd.func16, Tryd.ntmps16
        go_wp2_with fail
        refine hi.mono ?_
        rintro e w' ⟨rfl, rfl⟩
        go_wp2_with fail
        refine hlk.mono ?_
        rintro e w' ⟨rfl, rfl⟩
        go_wp2_with fail
        clear hi hlk
        refine region_old (by kernel_rfl) (fun wd hHeld hSz => ?_)
        have HSz := Lib.hid hSz
        clear hSz
        refine takeL (i := 0) (v := ?_) rfl (by kernel_rfl) (by kernel_rfl) (by kernel_rfl) (fun _ _ _ h => h) (Or.inl ⟨by rfl, ?_⟩) hHeld ?_
        rotate_left
        focus (intro wq hSw; clear hSw; go_simp; try with_reducible rfl)
        try simp only [Act.put, List.setIfInBounds_toArray, List.set_cons_zero, List.set_cons_succ]
        refine takeL (i := 1) (v := ?_) rfl (by kernel_rfl) (by kernel_rfl) (by kernel_rfl) (fun _ _ _ h => h) (Or.inl ⟨by rfl, ?_⟩) hHeld ?_
        rotate_left
        focus (intro wq hSw; clear hSw; go_simp; try with_reducible rfl)
        try simp only [Act.put, List.setIfInBounds_toArray, List.set_cons_zero, List.set_cons_succ]
        refine takeL (i := 2) (v := ?_) rfl (by kernel_rfl) (by kernel_rfl) (by kernel_rfl) (fun _ _ _ h => h) (Or.inl ⟨by rfl, ?_⟩) hHeld ?_
        rotate_left
        focus (intro wq hSw; clear hSw; go_simp; try with_reducible rfl)
        try simp only [Act.put, List.setIfInBounds_toArray, List.set_cons_zero, List.set_cons_succ]
        refine takeL (i := 3) (v := ?_) rfl (by kernel_rfl) (by kernel_rfl) (by kernel_rfl) (fun _ _ _ h => h) (Or.inl ⟨by rfl, ?_⟩) hHeld ?_
        rotate_left
        focus (intro wq hSw; clear hSw; go_simp; try with_reducible rfl)
        try simp only [Act.put, List.setIfInBounds_toArray, List.set_cons_zero, List.set_cons_succ]
        refine takeL (i := 4) (v := ?_) rfl (by kernel_rfl) (by kernel_rfl) (by kernel_rfl) (fun _ _ _ h => h) (Or.inl ⟨by rfl, ?_⟩) hHeld ?_
        rotate_left
        focus (intro wq hSw; have q0 := cellOld hSw H.out.2.2.2.2.2.2.1; clear hSw; go_simp; try with_reducible rfl)
        try simp only [Act.put, List.setIfInBounds_toArray, List.set_cons_zero, List.set_cons_succ]
        refine takeL (i := 6) (v := ?_) rfl (by kernel_rfl) (by kernel_rfl) (by kernel_rfl) (fun _ _ _ h => h) (Or.inl ⟨by rfl, ?_⟩) hHeld ?_
        rotate_left
        focus (intro wq hSw; clear hSw; go_simp; try with_reducible rfl)
        try simp only [Act.put, List.setIfInBounds_toArray, List.set_cons_zero, List.set_cons_succ]
        refine takeL (i := 7) (v := ?_) rfl (by kernel_rfl) (by kernel_rfl) (by kernel_rfl) (fun _ _ _ h => h) (Or.inl ⟨by rfl, ?_⟩) hHeld ?_
        rotate_left
        focus (intro wq hSw; clear hSw; go_simp; try with_reducible rfl)
        try simp only [Act.put, List.setIfInBounds_toArray, List.set_cons_zero, List.set_cons_succ]
        refine takeL (i := 8) (v := ?_) rfl (by kernel_rfl) (by kernel_rfl) (by kernel_rfl) (fun _ _ _ h => h) (Or.inl ⟨by rfl, ?_⟩) hHeld ?_
        rotate_left
        focus (intro wq hSw; clear hSw; go_simp; try with_reducible rfl)
        try simp only [Act.put, List.setIfInBounds_toArray, List.set_cons_zero, List.set_cons_succ]
        refine takeL (i := 9) (v := ?_) rfl (by kernel_rfl) (by kernel_rfl) (by kernel_rfl) (fun _ _ _ h => h) (Or.inl ⟨by rfl, ?_⟩) hHeld ?_
        rotate_left
        focus (intro wq hSw; have q1 := cellOld hSw H.out.2.2.2.2.2.2.2.1; clear hSw; go_simp; try with_reducible rfl)
        try simp only [Act.put, List.setIfInBounds_toArray, List.set_cons_zero, List.set_cons_succ]
        refine wpAnyH_ready (rs := [5]) (by kernel_rfl) (by simp) ?_
        refine consL rfl (fun K hK => ?_) AllReadyH.nil
        go_simp
        refine (phash_any A m c pin (some ⟨b1, o1, none⟩) 16 c1 salt wd (H.out.2.2.2.1.below hHeld) H.out.2.2.2.2.2.2.2.2.2.1 (H.out.2.1.below hHeld) (by rw [H.out.2.2.2.2.2.2.2.2.2.2]; omega) (H.out.2.2.2.2.1.below hHeld)).mono ?_
        rintro e w3 ⟨A3, c3, rfl, r3, hO3⟩
        rw [H.out.2.2.2.2.2.1] at r3
        have hH3 := Old.trans hHeld hO3
        refine hK.out _ _ hH3 (fun hHeld => ?_)
        clear hK K
        try simp only [Act.put, List.setIfInBounds_toArray, List.set_cons_zero, List.set_cons_succ]
        refine wpAnyH_ready (rs := [10]) (by kernel_rfl) (by simp) ?_
        refine consL rfl (fun K hK => ?_) AllReadyH.nil
        go_simp
        refine (equalB_any A3 32 c3 A2 32 c2 PH hash _ r3 (H.out.2.2.1.below hHeld)).mono ?_
        rintro e w' ⟨rfl, rfl⟩
        refine hK.out _ _ hHeld (fun hHeld => ?_)
        clear hK K
        try simp only [Act.put, List.setIfInBounds_toArray, List.set_cons_zero, List.set_cons_succ]
        refine takeL (i := 11) (v := ?_) rfl (by kernel_rfl) (by kernel_rfl) (by kernel_rfl) (fun _ _ _ h => h) (Or.inl ⟨by rfl, ?_⟩) hHeld ?_
        rotate_left
        focus (intro wq hSw; clear hSw; go_simp; try with_reducible rfl)
        try simp only [Act.put, List.setIfInBounds_toArray, List.set_cons_zero, List.set_cons_succ]
        refine takeL (i := 12) (v := ?_) rfl (by kernel_rfl) (by kernel_rfl) (by kernel_rfl) (fun _ _ _ h => h) (Or.inl ⟨by rfl, ?_⟩) hHeld ?_
        rotate_left
        focus (intro wq hSw; clear hSw; go_simp; try with_reducible rfl)
        try simp only [Act.put, List.setIfInBounds_toArray, List.set_cons_zero, List.set_cons_succ]
        refine wpAnyH_done (by kernel_rfl) ?_ _
        refine NoPanic.normal ?_
        try simp only [Exit.then]
        clear r3 hO3 hH3
        have hB1 := Blk.below H.out.1 hHeld
        have f2 := hB1.frozen 2
        have q2 := hB1.cell 2
        simp at q2
        have r1' := H.out.2.1.below hHeld
        have r2' := H.out.2.2.1.below hHeld
        have H9 := Lib.hid (And.intro hB1 (And.intro r1' (And.intro r2' hHeld)))
        clear hB1 r1' r2' hHeld
        try simp only [hde, Bool.not_false]
        go_wp2_with fail
        go_ret
        have ht3 : Turn [p] w3 (w3.setCell ⟨p, 2, none⟩ (.int .i64 ((t : Int) + 1))) := (Turn.refl [p] _).setCell (.inl (by simp)) _
        refine ⟨rfl, .inr ⟨H.out.2.2.2.2.2.2.2.2.1, b1, o1, c1, A2, c2, ?_, H9.out.2.1.turnN (by decide) ht3 (one_noB p (NoB.of H9.out.1 rfl)), H9.out.2.2.1.turnN (by decide) ht3 (one_noB p (NoB.of H9.out.1 rfl))⟩, (Turn.of_below [p] H9.out.2.2.2).trans ht3 (fun x hx => .inl hx)⟩
        have := H9.out.1.set_ 2 (.int .i64 ((t : Int) + 1))
        simpa using this
set_option maxHeartbeats 1000000 in
theorem enc_any (p : Nat) (s : PS) (w : World) (h : PinAt w p s) (hok : s.Ok) :
    Calls Tryd.prog 9 #[.pointer (some ⟨p, 0, none⟩)] w fun e w' => ∃ A n c, e = .returned (.slice A n c) ∧ Own w' w.heap.size (.slice A n c) s.enc ∧ Old w w' := by
  have hi := pis_any p s w h
  unfold PS.enc
  rcases h with ⟨h1, h2, h⟩ | ⟨h1, b1, o1, c1, A2, c2, hB, r1, r2⟩
  · rw [if_pos h1]
    rw [h1] at hi
    clear h h1 h2 hok
    go_enter Tryd.func9, Tryd.ntmps9
    go_wp2_with fail
    refine hi.mono ?_
    rintro e w' ⟨rfl, rfl⟩
    go_wp2_with fail
    go_ret
    exact ⟨_, _, _, rfl, own_lit (l := [0]) rfl rfl (by simp), (Old.refl _).alloc _⟩
  · rw [if_neg (by simp [h1])]
    rw [h1] at hi
    have q0 := hB.cell 0
    have q1 := hB.cell 1
    have q2 := hB.cell 2
    simp at q0 q1 q2
    have htl : s.tries ≤ 3 := hok.tries
    have hsl := hok.salt h1
    have hhl := hok.hash h1
    obtain ⟨set, salt, hash, t⟩ := s
    simp only at *
    have g1 : IntKind.u8.wrap (t : Int) = (t : Int) := wraps_u8 _ (by omega) (by show (t : Int) < 256; omega)
    have htb : (UInt8.ofNat t).toNat = t := by simp []; omega
    have H := Lib.hid (And.intro hB (And.intro r1 (And.intro r2 (And.intro q0 (And.intro q1 (And.intro q2 (And.intro hsl (And.intro hhl htb))))))))
    clear hB r1 r2 q0 q1 q2 hsl hhl htb h1 hok
    go_enter Tryd.func9, Tryd.ntmps9
    go_wp2_with fail
    refine hi.mono ?_
    rintro e w' ⟨rfl, rfl⟩
    go_wp2_with fail
    clear hi
    refine region_old (by kernel_rfl) (fun wd hHeld hSz => ?_)
    have hOd := hHeld
    have HSz := Lib.hid hSz
    clear hSz
    refine takeL (i := 0) (v := ?_) rfl (by kernel_rfl) (by kernel_rfl) (by kernel_rfl) (fun _ _ _ h => h) (Or.inl ⟨by rfl, ?_⟩) hHeld ?_
    rotate_left
    focus (intro wq hSw; clear hSw; go_simp; try with_reducible rfl)
    try simp only [Act.put, List.setIfInBounds_toArray, List.set_cons_zero, List.set_cons_succ]
    refine takeL (i := 1) (v := ?_) rfl (by kernel_rfl) (by kernel_rfl) (by kernel_rfl) (fun _ _ _ h => h) (Or.inl ⟨by rfl, ?_⟩) hHeld ?_
    rotate_left
    focus (intro wq hSw; clear hSw; go_simp; try with_reducible rfl)
    try simp only [Act.put, List.setIfInBounds_toArray, List.set_cons_zero, List.set_cons_succ]
    refine takeL (i := 2) (v := ?_) rfl (by kernel_rfl) (by kernel_rfl) (by kernel_rfl) (fun _ _ _ h => h) (Or.inl ⟨by rfl, ?_⟩) hHeld ?_
    rotate_left
    focus (intro wq hSw; clear hSw; go_simp; try with_reducible rfl)
    try simp only [Act.put, List.setIfInBounds_toArray, List.set_cons_zero, List.set_cons_succ]
    refine takeL (i := 3) (v := ?_) rfl (by kernel_rfl) (by kernel_rfl) (by kernel_rfl) (fun _ _ _ h => h) (Or.inl ⟨by rfl, ?_⟩) hHeld ?_
    rotate_left
    focus (intro wq hSw; have q2 := cellOld hSw H.out.2.2.2.2.2.1; clear hSw; go_simp; try with_reducible rfl)
    try simp only [Act.put, List.setIfInBounds_toArray, List.set_cons_zero, List.set_cons_succ]
    refine takeL (i := 4) (v := ?_) rfl (by kernel_rfl) (by kernel_rfl) (by kernel_rfl) (fun _ _ _ h => h) (Or.inl ⟨by rfl, ?_⟩) hHeld ?_
    rotate_left
    focus (intro wq hSw; clear hSw; go_simp; try with_reducible rfl)
    try simp only [Act.put, List.setIfInBounds_toArray, List.set_cons_zero, List.set_cons_succ]
    refine takeL (i := 6) (v := ?_) rfl (by kernel_rfl) (by kernel_rfl) (by kernel_rfl) (fun _ _ _ h => h) (Or.inl ⟨by rfl, ?_⟩) hHeld ?_
    rotate_left
    focus (intro wq hSw; clear hSw; go_simp; try with_reducible rfl)
    try simp only [Act.put, List.setIfInBounds_toArray, List.set_cons_zero, List.set_cons_succ]
    refine takeL (i := 7) (v := ?_) rfl (by kernel_rfl) (by kernel_rfl) (by kernel_rfl) (fun _ _ _ h => h) (Or.inl ⟨by rfl, ?_⟩) hHeld ?_
    rotate_left
    focus (intro wq hSw; clear hSw; go_simp; try with_reducible rfl)
    try simp only [Act.put, List.setIfInBounds_toArray, List.set_cons_zero, List.set_cons_succ]
    refine takeL (i := 8) (v := ?_) rfl (by kernel_rfl) (by kernel_rfl) (by kernel_rfl) (fun _ _ _ h => h) (Or.inl ⟨by rfl, ?_⟩) hHeld ?_
    rotate_left
    focus (intro wq hSw; clear hSw; go_simp; try with_reducible rfl)
    try simp only [Act.put, List.setIfInBounds_toArray, List.set_cons_zero, List.set_cons_succ]
    refine takeL (i := 9) (v := ?_) rfl (by kernel_rfl) (by kernel_rfl) (by kernel_rfl) (fun _ _ _ h => h) (Or.inl ⟨by rfl, ?_⟩) hHeld ?_
    rotate_left
    focus (intro wq hSw; have q0 := cellOld hSw H.out.2.2.2.1; clear hSw; go_simp; try with_reducible rfl)
    try simp only [Act.put, List.setIfInBounds_toArray, List.set_cons_zero, List.set_cons_succ]
    refine takeL (i := 11) (v := ?_) rfl (by kernel_rfl) (by kernel_rfl) (by kernel_rfl) (fun _ _ _ h => h) (Or.inl ⟨by rfl, ?_⟩) hHeld ?_
    rotate_left
    focus (intro wq hSw; clear hSw; go_simp; try with_reducible rfl)
    try simp only [Act.put, List.setIfInBounds_toArray, List.set_cons_zero, List.set_cons_succ]
    refine takeL (i := 12) (v := ?_) rfl (by kernel_rfl) (by kernel_rfl) (by kernel_rfl) (fun _ _ _ h => h) (Or.inl ⟨by rfl, ?_⟩) hHeld ?_
    rotate_left
    focus (intro wq hSw; clear hSw; go_simp; try with_reducible rfl)
    try simp only [Act.put, List.setIfInBounds_toArray, List.set_cons_zero, List.set_cons_succ]
    refine takeL (i := 13) (v := ?_) rfl (by kernel_rfl) (by kernel_rfl) (by kernel_rfl) (fun _ _ _ h => h) (Or.inl ⟨by rfl, ?_⟩) hHeld ?_
    rotate_left
    focus (intro wq hSw; clear hSw; go_simp; try with_reducible rfl)
    try simp only [Act.put, List.setIfInBounds_toArray, List.set_cons_zero, List.set_cons_succ]
    refine takeL (i := 14) (v := ?_) rfl (by kernel_rfl) (by kernel_rfl) (by kernel_rfl) (fun _ _ _ h => h) (Or.inl ⟨by rfl, ?_⟩) hHeld ?_
    rotate_left
    focus (intro wq hSw; have q1 := cellOld hSw H.out.2.2.2.2.1; clear hSw; go_simp; try with_reducible rfl)
    try simp only [Act.put, List.setIfInBounds_toArray, List.set_cons_zero, List.set_cons_succ]
    refine wpAnyH_ready (rs := [5]) (by kernel_rfl) (by simp) ?_
    refine consL rfl (fun K hK => ?_) AllReadyH.nil
    go_simp
    refine hK.out _ _ (by repeat (first | exact hHeld | exact Old.refl _ | assumption | refine Old.drew ?_ | refine Old.drewN ?_ _ | refine Old.alloc ?_ _)) (fun hHeld => ?_)
    clear hK K
    try simp only [Act.put, List.setIfInBounds_toArray, List.set_cons_zero, List.set_cons_succ]
    refine wpAnyH_ready (rs := [10]) (by kernel_rfl) (by simp) ?_
    refine consL rfl (fun K hK => ?_) AllReadyH.nil
    have hown : Own (wd.alloc (.cells #[.int .u8 1, .int .u8 (t : Int)] 5)) wd.heap.size (.slice (some ⟨wd.heap.size, 0, none⟩) 2 2) [1, UInt8.ofNat t] := own_lit (by simp only [List.map, B, H.out.2.2.2.2.2.2.2.2]; rfl) rfl (by simp)
    refine step_app2 (.tmp 12) (.tmp 16) wd.heap.size (.slice (some ⟨wd.heap.size, 0, none⟩) 2 2) [1, UInt8.ofNat t] hown (by simp) (some ⟨b1, o1, none⟩) 16 c1 salt ((H.out.2.1.below hOd).below ((Old.refl _).alloc _)) (by rw [H.out.2.2.2.2.2.2.1]; simp) rfl rfl rfl rfl (fun A5 n5 c5 w5 hn5 hG1 => ?_)
    have hH5 : Old w w5 := hHeld.grown hG1.grown (Nat.le_trans hOd.size (by simp)) (fun k hk => by have h9 : wd.heap.size = k := (by simpa [Value.ownBlock] using hk); have := hOd.size; omega)
    refine hK.out _ _ hH5 (fun hHeld => ?_)
    clear hK K
    try simp only [Act.put, List.setIfInBounds_toArray, List.set_cons_zero, List.set_cons_succ]
    refine wpAnyH_ready (rs := [15]) (by kernel_rfl) (by simp) ?_
    refine consL rfl (fun K hK => ?_) AllReadyH.nil
    refine step_app2 (.tmp 17) (.tmp 21) wd.heap.size (.slice A5 n5 c5) ([1, UInt8.ofNat t] ++ salt) hG1.own (by have h9 := hG1.below.size; simp at h9; omega) A2 32 c2 hash (H.out.2.2.1.below hHeld) (by rw [List.length_append, H.out.2.2.2.2.2.2.1, H.out.2.2.2.2.2.2.2.1]; simp) rfl rfl rfl rfl (fun A6 n6 c6 w6 hn6 hG2 => ?_)
    have hH6 : Old w w6 := hHeld.grown hG2.grown hHeld.size (fun k hk => by have := (hG1.own.lt hk).1; have := hOd.size; omega)
    refine hK.out _ _ hH6 (fun hHeld => ?_)
    clear hK K
    try simp only [Act.put, List.setIfInBounds_toArray, List.set_cons_zero, List.set_cons_succ]
    refine takeL (i := 16) (v := ?_) rfl (by kernel_rfl) (by kernel_rfl) (by kernel_rfl) (fun _ _ _ h => h) (Or.inl ⟨by rfl, ?_⟩) hHeld ?_
    rotate_left
    focus (intro wq hSw; clear hSw; go_simp; try with_reducible rfl)
    try simp only [Act.put, List.setIfInBounds_toArray, List.set_cons_zero, List.set_cons_succ]
    refine wpAnyH_done (by kernel_rfl) ?_ _
    refine NoPanic.normal ?_
    try simp only [Exit.then]
    have H9 := Lib.hid (And.intro hG2.own hHeld)
    clear hG2 hG1
    go_wp2_with fail
    go_ret
    refine ⟨_, _, _, rfl, ?_, H9.out.2⟩
    have := H9.out.1.mono (show w.heap.size ≤ wd.heap.size from by rw [HSz.out]; exact Nat.le_refl _)
    exact this
end Go.Proofs.YtdgjjmaiibafhaaDoor
namespace Go.Proofs.YtdgjjmaiibafhaaDoor
set_option maxRecDepth 100000
open Go.RowKit

/-- What Decode leaves. -/
def DecPost (w : World) (r : Option PS) (e : Ending) (w' : World) : Prop := match r with
  | none => e = .returned (.tuple #[.pointer none, .bool false]) ∧ Old w w'
  | some s => ∃ q, e = .returned (.tuple #[.pointer (some ⟨q, 0, none⟩), .bool true]) ∧ PinAt w' q s ∧ w.heap.size ≤ q ∧ Old w w'
theorem DecPost.no {w w' : World} {e : Ending} {r : Option PS} (hr : r = none) (h1 : e = .returned (.tuple #[.pointer none, .bool false])) (h2 : Old w w') : DecPost w r e w' := by
  subst hr
  exact ⟨h1, h2⟩
theorem DecPost.yes {w w' : World} {e : Ending} {r : Option PS} {s : PS} (hr : r = some s) (q : Nat) (h1 : e = .returned (.tuple #[.pointer (some ⟨q, 0, none⟩), .bool true])) (h2 : PinAt w' q s) (h3 : w.heap.size ≤ q) (h4 : Old w w') : DecPost w r e w' := by
  subst hr
  exact ⟨q, h1, h2, h3, h4⟩
theorem dec_no {b : List UInt8} (h1 : b ≠ [0]) (h2 : ¬ (b.length = 50 ∧ b.getD 0 0 = 1 ∧ (b.getD 1 0).toNat ≤ 3)) : PS.dec b = none := by
  unfold PS.dec
  rw [if_neg h1, if_neg h2]
set_option maxHeartbeats 1000000 in
theorem dec_any (A : Option Addr) (m c : Nat) (b : List UInt8) (w : World) (hr : Rd w A m c b) (hl : m ≤ 1000) :
    Calls Tryd.prog 8 #[.slice A m c] w (DecPost w (PS.dec b)) := by
  have hm := hr.1
  by_cases hm1 : m = 1
  · subst hm1
    obtain ⟨x, rfl⟩ : ∃ x, b = [x] := by
      match b, hm with
      | [x], _ => exact ⟨x, rfl⟩
    obtain ⟨g, off, rfl, hat⟩ := hr.addr (by omega)
    have c0 := hat.2 0 x rfl
    unfold B at c0
    rw [Nat.add_zero] at c0
    by_cases hx : x = 0
    · subst hx
      have c0' : w.cell? ⟨g, off, none⟩ = some (.int .u8 0) := c0
      have hn := pnew_any w
      have hdec : PS.dec [0] = some PS.none := by unfold PS.dec; rw [if_pos rfl]
      have H := Lib.hid hdec
      clear c0 hat hr hdec hm hl
      obtain ⟨R, hR⟩ : ∃ R, PS.dec [0] = R := ⟨_, rfl⟩
      rw [hR]
      have HR := Lib.hid (hR.symm.trans H.out)
      clear hR
      go_enter Tryd.func8, Tryd.ntmps8
      go_wp2_with fail
      refine hn.mono ?_
      rintro e w1 ⟨p, rfl, hp1, hp2, hO1⟩
      have H1 := Lib.hid (And.intro hp1 (And.intro hp2 hO1))
      clear hn hp1 hp2 hO1
      go_wp2_with fail
      refine bodyPost_ret (results_tmp2 rfl _ _ _) rfl ?_
      exact DecPost.yes HR.out p rfl H1.out.1 H1.out.2.1 H1.out.2.2
    · have hx0 : ¬ ((x.toNat : Nat) : Int) = 0 := fun e => hx (by
        have : x.toNat = 0 := by omega
        exact UInt8.toNat_inj.1 this)
      have hdec := dec_no (b := [x]) (fun e => hx (by injection e)) (fun h => by have := h.1; simp at this)
      obtain ⟨n0, hn0⟩ : ∃ n0, x.toNat = n0 := ⟨_, rfl⟩
      rw [hn0] at c0 hx0
      obtain ⟨R, hR⟩ : ∃ R, PS.dec [x] = R := ⟨_, rfl⟩
      rw [hR] at hdec ⊢
      have HR := Lib.hid hdec
      clear hR hdec hat hr hn0 hx hm hl
      go_enter Tryd.func8, Tryd.ntmps8
      go_wp2_with fail
      refine bodyPost_ret (results_tmp2 rfl _ _ _) rfl ?_
      exact DecPost.no HR.out rfl (Old.refl _)
  · have t1 : ¬ (m : Int) = 1 := by omega
    by_cases hm50 : m = 50
    · subst hm50
      obtain ⟨g, off, rfl, hat⟩ := hr.addr (by omega)
      obtain ⟨x0, x1, l, rfl⟩ : ∃ x0 x1 l, b = x0 :: x1 :: l := by
        match b, hm with
        | x0 :: x1 :: l, _ => exact ⟨x0, x1, l, rfl⟩
      have c0 := hat.2 0 x0 rfl
      have c1 := hat.2 1 x1 rfl
      unfold B at c0 c1
      rw [Nat.add_zero] at c0
      obtain ⟨n0, hn0⟩ : ∃ n0, x0.toNat = n0 := ⟨_, rfl⟩
      obtain ⟨n1, hn1⟩ : ∃ n1, x1.toNat = n1 := ⟨_, rfl⟩
      rw [hn0] at c0
      rw [hn1] at c1
      by_cases hx0 : n0 = 1
      · by_cases hx1 : n1 ≤ 3
        · have hx01 : x0 = 1 := UInt8.toNat_inj.1 (by rw [hn0, hx0]; rfl)
          subst hx0
          have t3 : ¬ (3 : Int) < n1 := by omega
          have t3d : decide ((3 : Int) < (n1 : Int)) = false := decide_eq_false t3
          have hdec : PS.dec (x0 :: x1 :: l) = some ⟨true, l.take 16, l.drop 16, n1⟩ := by
            unfold PS.dec
            rw [if_neg (by simp), if_pos ⟨hm.symm, by rw [hx01]; rfl, by show x1.toNat ≤ 3; omega⟩]
            show some (PS.mk true (l.take 16) (l.drop 16) x1.toNat) = _
            rw [hn1]
          have hll : l.length = 48 := by simp at hm; omega
          have hc50 : 50 ≤ c := hr.2.1
          have hs1 : ∀ w, (Instr.slice 22 (.slice (some ⟨g, off, none⟩) 50 c) (some (.int .i64 2)) (some (.int .i64 18)) none).run Tryd.prog w = .ok (.slice (some ⟨g, off + 2, none⟩) 16 (c - 2)) w := fun w => by
            have h := slice_both (some ⟨g, off, none⟩) 50 c 2 18 (by omega) (by omega) w
            rw [if_neg (by omega)] at h
            exact h
          have hs2 : ∀ w, (Instr.slice 22 (.slice (some ⟨g, off, none⟩) 50 c) (some (.int .i64 18)) none none).run Tryd.prog w = .ok (.slice (some ⟨g, off + 18, none⟩) 32 (c - 18)) w := fun w => by
            have h := slice_from (some ⟨g, off, none⟩) 50 c 18 (by omega) w
            rw [if_neg (by omega)] at h
            exact h
          have a1 : At w g (off + 2) (l.take 16) := by
            have := (hat.drop 2).take 16
            exact this
          have a2 : At w g (off + 18) (l.drop 16) := by
            have := hat.drop 18
            exact this
          have g1 : IntKind.i64.wrap (n1 : Int) = (n1 : Int) := IntWalk.i64_in _ (by omega)
          obtain ⟨R, hR⟩ : ∃ R, PS.dec (x0 :: x1 :: l) = R := ⟨_, rfl⟩
          rw [hR] at hdec ⊢
          have HR := Lib.hid hdec
          have H := Lib.hid (And.intro a1 (And.intro a2 (And.intro hll (And.intro c1 True.intro))))
          clear hR hdec hat hr hn0 hn1 hx1 hm a1 a2 hll hx01 hm1
          go_enter Tryd.func8, Tryd.ntmps8
          go_wp2_with fail
          refine region_old (by kernel_rfl) (fun wd hHeld hSz => ?_)
          have hOd := hHeld
          have HSz := Lib.hid hSz
          clear hSz
          refine takeL (i := 0) (v := ?_) rfl (by kernel_rfl) (by kernel_rfl) (by kernel_rfl) (fun _ _ _ h => h) (Or.inl ⟨by rfl, ?_⟩) hHeld ?_
          rotate_left
          focus (intro wq hSw; clear hSw; go_simp; try with_reducible rfl)
          try simp only [Act.put, List.setIfInBounds_toArray, List.set_cons_zero, List.set_cons_succ]
          refine takeL (i := 1) (v := ?_) rfl (by kernel_rfl) (by kernel_rfl) (by kernel_rfl) (fun _ _ _ h => h) (Or.inl ⟨by rfl, ?_⟩) hHeld ?_
          rotate_left
          focus (intro wq hSw; have hRun := hs1 wq; clear hSw; go_simp; try with_reducible rfl)
          try simp only [Act.put, List.setIfInBounds_toArray, List.set_cons_zero, List.set_cons_succ]
          refine takeL (i := 3) (v := ?_) rfl (by kernel_rfl) (by kernel_rfl) (by kernel_rfl) (fun _ _ _ h => h) (Or.inl ⟨by rfl, ?_⟩) hHeld ?_
          rotate_left
          focus (intro wq hSw; clear hSw; go_simp; try with_reducible rfl)
          try simp only [Act.put, List.setIfInBounds_toArray, List.set_cons_zero, List.set_cons_succ]
          refine takeL (i := 4) (v := ?_) rfl (by kernel_rfl) (by kernel_rfl) (by kernel_rfl) (fun _ _ _ h => h) (Or.inl ⟨by rfl, ?_⟩) hHeld ?_
          rotate_left
          focus (intro wq hSw; have hRun := hs2 wq; clear hSw; go_simp; try with_reducible rfl)
          try simp only [Act.put, List.setIfInBounds_toArray, List.set_cons_zero, List.set_cons_succ]
          refine takeL (i := 6) (v := ?_) rfl (by kernel_rfl) (by kernel_rfl) (by kernel_rfl) (fun _ _ _ h => h) (Or.inl ⟨by rfl, ?_⟩) hHeld ?_
          rotate_left
          focus (intro wq hSw; clear hSw; go_simp; try with_reducible rfl)
          try simp only [Act.put, List.setIfInBounds_toArray, List.set_cons_zero, List.set_cons_succ]
          refine takeL (i := 7) (v := ?_) rfl (by kernel_rfl) (by kernel_rfl) (by kernel_rfl) (fun _ _ _ h => h) (Or.inl ⟨by rfl, ?_⟩) hHeld ?_
          rotate_left
          focus (intro wq hSw; clear hSw; go_simp; try with_reducible rfl)
          try simp only [Act.put, List.setIfInBounds_toArray, List.set_cons_zero, List.set_cons_succ]
          refine takeL (i := 8) (v := ?_) rfl (by kernel_rfl) (by kernel_rfl) (by kernel_rfl) (fun _ _ _ h => h) (Or.inl ⟨by rfl, ?_⟩) hHeld ?_
          rotate_left
          focus (intro wq hSw; have c1 := cellOld hSw H.out.2.2.2.1; clear hSw; go_simp; try with_reducible rfl)
          try simp only [Act.put, List.setIfInBounds_toArray, List.set_cons_zero, List.set_cons_succ]
          refine takeL (i := 9) (v := ?_) rfl (by kernel_rfl) (by kernel_rfl) (by kernel_rfl) (fun _ _ _ h => h) (Or.inl ⟨by rfl, ?_⟩) hHeld ?_
          rotate_left
          focus (intro wq hSw; clear hSw; go_simp; try with_reducible rfl)
          try simp only [Act.put, List.setIfInBounds_toArray, List.set_cons_zero, List.set_cons_succ]
          refine wpAnyH_ready (rs := [2]) (by kernel_rfl) (by simp) ?_
          refine consL rfl (fun K hK => ?_) AllReadyH.nil
          go_simp
          refine (clone_any g (off + 2) 16 (c - 2) (l.take 16) wd (Go.Proofs.YtdgjjmaiibafhaaDoor.At.keep H.out.1 hHeld.size (hHeld.block g H.out.1.1)) (by rw [List.length_take, H.out.2.2.1]; rfl) (by omega)).mono ?_
          rintro e w4 ⟨gs, cs, rfl, hO4, hb4⟩
          have hH4 := Old.trans hHeld hb4
          refine hK.out _ _ hH4 (fun hHeld => ?_)
          clear hK K
          try simp only [Act.put, List.setIfInBounds_toArray, List.set_cons_zero, List.set_cons_succ]
          refine wpAnyH_ready (rs := [5]) (by kernel_rfl) (by simp) ?_
          refine consL rfl (fun K hK => ?_) AllReadyH.nil
          go_simp
          refine (clone_any g (off + 18) 32 (c - 18) (l.drop 16) w4 (Go.Proofs.YtdgjjmaiibafhaaDoor.At.keep H.out.2.1 hHeld.size (hHeld.block g H.out.2.1.1)) (by rw [List.length_drop, H.out.2.2.1]) (by omega)).mono ?_
          rintro e w5 ⟨gh, ch, rfl, hO5, hb5⟩
          have hH5 := Old.trans hHeld hb5
          refine hK.out _ _ hH5 (fun hHeld => ?_)
          clear hK K
          try simp only [Act.put, List.setIfInBounds_toArray, List.set_cons_zero, List.set_cons_succ]
          refine takeL (i := 10) (v := ?_) rfl (by kernel_rfl) (by kernel_rfl) (by kernel_rfl) (fun _ _ _ h => h) (Or.inl ⟨by rfl, ?_⟩) hHeld ?_
          rotate_left
          focus (intro wq hSw; clear hSw; go_simp; try with_reducible rfl)
          try simp only [Act.put, List.setIfInBounds_toArray, List.set_cons_zero, List.set_cons_succ]
          refine wpAnyH_ready (rs := [11]) (by kernel_rfl) (by simp) ?_
          refine consL rfl (fun K hK => ?_) AllReadyH.nil
          go_simp
          refine hK.out _ _ (by repeat (first | exact hHeld | exact Old.refl _ | assumption | refine Old.drew ?_ | refine Old.drewN ?_ _ | refine Old.alloc ?_ _)) (fun hHeld => ?_)
          clear hK K
          try simp only [Act.put, List.setIfInBounds_toArray, List.set_cons_zero, List.set_cons_succ]
          refine takeL (i := 12) (v := ?_) rfl (by kernel_rfl) (by kernel_rfl) (by kernel_rfl) (fun _ _ _ h => h) (Or.inl ⟨by rfl, ?_⟩) hHeld ?_
          rotate_left
          focus (intro wq hSw; clear hSw; go_simp; try with_reducible rfl)
          try simp only [Act.put, List.setIfInBounds_toArray, List.set_cons_zero, List.set_cons_succ]
          refine takeL (i := 13) (v := ?_) rfl (by kernel_rfl) (by kernel_rfl) (by kernel_rfl) (fun _ _ _ h => h) (Or.inl ⟨by rfl, ?_⟩) hHeld ?_
          rotate_left
          focus (intro wq hSw; clear hSw; go_simp; try with_reducible rfl)
          try simp only [Act.put, List.setIfInBounds_toArray, List.set_cons_zero, List.set_cons_succ]
          refine wpAnyH_done (by kernel_rfl) ?_ _
          refine NoPanic.normal ?_
          clear hH4 hH5
          try simp only [Exit.then]
          have hb9 := Blk.new w5 49 #[.slice (some ⟨gs, 0, none⟩) 16 cs, .slice (some ⟨gh, 0, none⟩) 32 ch, .int .i64 (n1 : Int)]
          have hH5 : Old w w5 := Old.trans (Old.trans hOd hb4) hb5
          have H9 := Lib.hid (And.intro hb9 (And.intro ((hO4.below hb5).rd.below ((Old.refl w5).alloc (.cells #[.slice (some ⟨gs, 0, none⟩) 16 cs, .slice (some ⟨gh, 0, none⟩) 32 ch, .int .i64 (n1 : Int)] 49))) (And.intro (hO5.rd.below ((Old.refl w5).alloc (.cells #[.slice (some ⟨gs, 0, none⟩) 16 cs, .slice (some ⟨gh, 0, none⟩) 32 ch, .int .i64 (n1 : Int)] 49))) (And.intro (Nat.le_trans hOd.size (Nat.le_trans hb4.size hb5.size)) (hH5.alloc (.cells #[.slice (some ⟨gs, 0, none⟩) 16 cs, .slice (some ⟨gh, 0, none⟩) 32 ch, .int .i64 (n1 : Int)] 49))))))
          clear hb9 hO4 hO5 hb4 hb5 hHeld hOd hH5
          go_wp2_with fail
          refine bodyPost_ret (results_tmp2 rfl _ _ _) rfl ?_
          exact DecPost.yes HR.out _ rfl (.inr ⟨rfl, gs, 0, cs, some ⟨gh, 0, none⟩, ch, H9.out.1, H9.out.2.1, H9.out.2.2.1⟩) H9.out.2.2.2.1 H9.out.2.2.2.2
        · have hdec := dec_no (b := x0 :: x1 :: l) (by simp) (fun h => hx1 (by have := h.2.2; simp at this; omega))
          have t3 : (3 : Int) < n1 := by omega
          have t3d : decide ((3 : Int) < (n1 : Int)) = true := decide_eq_true t3
          subst hx0
          obtain ⟨R, hR⟩ : ∃ R, PS.dec (x0 :: x1 :: l) = R := ⟨_, rfl⟩
          rw [hR] at hdec ⊢
          have HR := Lib.hid hdec
          clear hR hdec hat hr hn0 hn1 hx1 hm hm1
          go_enter Tryd.func8, Tryd.ntmps8
          go_wp2_with fail
          refine bodyPost_ret (results_tmp2 rfl _ _ _) rfl ?_
          exact DecPost.no HR.out rfl (Old.refl _)
      · have hdec := dec_no (b := x0 :: x1 :: l) (by simp) (fun h => hx0 (by have h9 := h.2.1; simp at h9; rw [h9] at hn0; exact hn0.symm))
        have t2 : ¬ (n0 : Int) = 1 := by omega
        obtain ⟨R, hR⟩ : ∃ R, PS.dec (x0 :: x1 :: l) = R := ⟨_, rfl⟩
        rw [hR] at hdec ⊢
        have HR := Lib.hid hdec
        clear hR hdec hat hr hn0 hn1 hx0 hm hm1
        go_enter Tryd.func8, Tryd.ntmps8
        go_wp2_with fail
        refine bodyPost_ret (results_tmp2 rfl _ _ _) rfl ?_
        exact DecPost.no HR.out rfl (Old.refl _)
    · have t2 : ¬ (m : Int) = 50 := by omega
      have hdec := dec_no (b := b) (fun e => hm1 (by rw [hm, e]; rfl)) (fun h => hm50 (hm.trans h.1))
      obtain ⟨R, hR⟩ : ∃ R, PS.dec b = R := ⟨_, rfl⟩
      rw [hR] at hdec ⊢
      have HR := Lib.hid hdec
      clear hR hdec hr hm hm1 hm50
      go_enter Tryd.func8, Tryd.ntmps8
      go_wp2_with fail
      refine bodyPost_ret (results_tmp2 rfl _ _ _) rfl ?_
      exact DecPost.no HR.out rfl (Old.refl _)
end Go.Proofs.YtdgjjmaiibafhaaDoor
