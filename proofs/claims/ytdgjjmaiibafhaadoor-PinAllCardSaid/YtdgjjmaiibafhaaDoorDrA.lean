/-
  The tape's bytes, plainly; a PIN, plainly.
  Blocks that hold no bytes; rows beside them.
  The tape: mac, update, Bytes of the program.
-/
import Derived.Test.YtdgjjmaiibafhaaDoorPbA
import Derived.Test.YtdgjjmaiibafhaaDoorReg
namespace Go.Proofs.YtdgjjmaiibafhaaDoor
open Go.RowKit

/-- HMAC with SHA-256. -/
def hm (K b : List UInt8) : List UInt8 := rhmac 3 K b
theorem hm_len32 (K b : List UInt8) (hK : K.length ≤ 1000) (hb : b.length ≤ 140737488351500) : (hm K b).length = 32 := by
  have h1 : (rhkey 3 K).length ≤ bl 3 := rhkey_len 3 K (by omega) (by omega)
  have hbl : bl 3 = 64 := by decide
  rw [hbl] at h1
  have hp : (padTo 64 (rhkey 3 K)).length = 64 := padTo_len 64 _ h1
  have hin : (rof 3 (xorAll (padTo (bl 3) (rhkey 3 K)) 54 ++ b)).length = 32 := by
    rw [rof_len 3 (by omega) _ (by rw [List.length_append, xorAll_len, hbl, hp]; omega)]
    decide
  rw [hbl] at hin
  unfold hm rhmac
  rw [hbl]
  rw [rof_len 3 (by omega) _ (by rw [List.length_append, xorAll_len, hp, hin]; omega)]
  decide
/-- A state. -/
structure DS where
  K : List UInt8
  V : List UInt8
/-- Its rows have 32 bytes. -/
structure DS.Ok (s : DS) : Prop where
  k : s.K.length = 32
  v : s.V.length = 32
def DS.half (s : DS) (x : UInt8) (data : List UInt8) : DS := ⟨hm s.K (s.V ++ [x] ++ data), hm (hm s.K (s.V ++ [x] ++ data)) s.V⟩
def DS.upd (s : DS) (data : List UInt8) : DS := if data.length = 0 then s.half 0 data else (s.half 0 data).half 1 data
def DS.new (ent : List UInt8) : DS := DS.upd ⟨zs 32, List.replicate 32 1⟩ ent
def DS.step (s : DS) : DS := ⟨s.K, hm s.K s.V⟩
/-- So many rounds: what they give, and the state. -/
def DS.gen (s : DS) : Nat → List UInt8 × DS
  | 0 => ([], s)
  | k + 1 => ((s.gen k).1 ++ (s.gen k).2.step.V, (s.gen k).2.step)
def DS.rounds (n : Nat) : Nat := (n + 31) / 32
def DS.bytes (s : DS) (n : Nat) : List UInt8 × DS := ((s.gen (DS.rounds n)).1.take n, (s.gen (DS.rounds n)).2.upd [])
theorem DS.Ok.half {s : DS} (h : s.Ok) (x : UInt8) {data : List UInt8} (hd : data.length ≤ 140737488351300) : (s.half x data).Ok := by
  have h1 : (hm s.K (s.V ++ [x] ++ data)).length = 32 := hm_len32 _ _ (by rw [h.k]; omega) (by rw [List.length_append, List.length_append, h.v]; simp; omega)
  exact ⟨h1, hm_len32 _ _ (by rw [h1]; omega) (by rw [h.v]; omega)⟩
theorem DS.Ok.upd {s : DS} (h : s.Ok) {data : List UInt8} (hd : data.length ≤ 140737488351300) : (s.upd data).Ok := by
  unfold DS.upd
  split
  · exact h.half 0 hd
  · exact (h.half 0 hd).half 1 hd
theorem DS.ok_new {ent : List UInt8} (hd : ent.length ≤ 140737488351300) : (DS.new ent).Ok := DS.Ok.upd ⟨zs_len 32, List.length_replicate⟩ hd
theorem DS.Ok.step {s : DS} (h : s.Ok) : s.step.Ok := ⟨h.k, hm_len32 _ _ (by rw [h.k]; omega) (by rw [h.v]; omega)⟩
theorem DS.Ok.gen {s : DS} (h : s.Ok) : ∀ k, (s.gen k).2.Ok
  | 0 => h
  | k + 1 => (DS.Ok.gen h k).step
theorem DS.gen_len {s : DS} (h : s.Ok) : ∀ k, (s.gen k).1.length = 32 * k
  | 0 => rfl
  | k + 1 => by
    show ((s.gen k).1 ++ (s.gen k).2.step.V).length = _
    rw [List.length_append, DS.gen_len h k, (h.gen k).step.v]
    omega
theorem DS.Ok.bytes {s : DS} (h : s.Ok) (n : Nat) : (s.bytes n).2.Ok := DS.Ok.upd (h.gen (DS.rounds n)) (data := []) (by simp only [List.length_nil]; omega)
theorem DS.bytes_len {s : DS} (h : s.Ok) (n : Nat) : (s.bytes n).1.length = n := by
  show ((s.gen (DS.rounds n)).1.take n).length = n
  rw [List.length_take, DS.gen_len h]
  unfold DS.rounds
  omega
/-- A PIN's hash. -/
def pinH (pin salt : List UInt8) : List UInt8 := pkeyAll 3 pin salt 8 32
/-- A PIN. -/
structure PS where
  set : Bool
  salt : List UInt8
  hash : List UInt8
  tries : Nat
structure PS.Ok (s : PS) : Prop where
  tries : s.tries ≤ 3
  salt : s.set = true → s.salt.length = 16
  hash : s.set = true → s.hash.length = 32
def PS.none : PS := ⟨false, [], [], 0⟩
def PS.put (s : PS) (d : DS) (pin : List UInt8) : Int × PS × DS :=
  if pin.length < 4 ∨ 64 < pin.length then (0xa2, s, d) else (0, ⟨true, (d.bytes 16).1, pinH pin (d.bytes 16).1, 0⟩, (d.bytes 16).2)
def PS.check (s : PS) (pin : List UInt8) : Int × PS :=
  if s.set = false then (0x102, s) else if 3 ≤ s.tries then (0xa4, s) else if pinH pin s.salt = s.hash then (0, { s with tries := 0 }) else (0xa0, { s with tries := s.tries + 1 })
def PS.enc (s : PS) : List UInt8 := if s.set = false then [0] else [1, UInt8.ofNat s.tries] ++ s.salt ++ s.hash
/-- What is read. -/
def PS.dec (b : List UInt8) : Option PS :=
  if b = [0] then some PS.none else if b.length = 50 ∧ b.getD 0 0 = 1 ∧ (b.getD 1 0).toNat ≤ 3 then some ⟨true, (b.drop 2).take 16, b.drop 18, (b.getD 1 0).toNat⟩ else Option.none
theorem pinH_len (pin salt : List UInt8) (hp : pin.length ≤ 1000) (hs : salt.length ≤ 1000) : (pinH pin salt).length = 32 := by
  unfold pinH pkeyAll
  rw [if_pos (by decide)]
  unfold pkey
  rw [List.length_take, pbk_len 3 (by omega) pin salt hp hs]
  have : (hsize 3).toNat = 32 := by decide
  rw [this]
  decide
theorem PS.ok_none : PS.none.Ok := ⟨by decide, fun h => (nomatch h), fun h => (nomatch h)⟩
theorem PS.Ok.put {s : PS} (h : s.Ok) {d : DS} (hd : d.Ok) (pin : List UInt8) : (s.put d pin).2.1.Ok ∧ (s.put d pin).2.2.Ok := by
  have h1 := DS.bytes_len hd 16
  have h2 := hd.bytes 16
  unfold PS.put
  obtain ⟨salt, d', hb⟩ : ∃ salt d', d.bytes 16 = (salt, d') := ⟨_, _, rfl⟩
  rw [hb] at h1 h2 ⊢
  simp only at h1 h2 ⊢
  split
  · exact ⟨h, hd⟩
  · rename_i hp
    have h3 := pinH_len pin salt (by omega) (by omega)
    obtain ⟨H, hH⟩ : ∃ H, pinH pin salt = H := ⟨_, rfl⟩
    rw [hH] at h3 ⊢
    exact ⟨⟨Nat.zero_le 3, fun _ => h1, fun _ => h3⟩, h2⟩
theorem PS.Ok.check {s : PS} (h : s.Ok) (pin : List UInt8) : (s.check pin).2.Ok := by
  unfold PS.check
  split
  · exact h
  split
  · exact h
  split
  · exact ⟨Nat.zero_le 3, h.salt, h.hash⟩
  · exact ⟨by simp only; omega, h.salt, h.hash⟩
theorem PS.enc_len {s : PS} (h : s.Ok) (hs : s.set = true) : s.enc.length = 50 := by
  unfold PS.enc
  rw [if_neg (by simp [hs]), List.length_append, List.length_append, h.salt hs, h.hash hs]
  rfl
theorem PS.dec_enc {s : PS} (h : s.Ok) : PS.dec s.enc = some (if s.set = true then s else PS.none) := by
  cases hs : s.set with
  | false =>
    unfold PS.enc PS.dec
    rw [if_pos hs, if_pos rfl]
    rfl
  | true =>
    have hl := PS.enc_len h hs
    have hd2 : s.enc.drop 2 = s.salt ++ s.hash := by unfold PS.enc; rw [if_neg (by simp [hs])]; rfl
    have hd18 : s.enc.drop 18 = s.hash := by
      rw [show 18 = 2 + 16 from rfl, ← List.drop_drop, hd2, ← h.salt hs, List.drop_left]
    have ht : (UInt8.ofNat s.tries).toNat = s.tries := by have := h.tries; simp []; omega
    have e0 : s.enc.getD 0 0 = 1 := by unfold PS.enc; rw [if_neg (by simp [hs])]; rfl
    have e1 : s.enc.getD 1 0 = UInt8.ofNat s.tries := by unfold PS.enc; rw [if_neg (by simp [hs])]; rfl
    unfold PS.dec
    rw [if_neg (fun e => by rw [e] at hl; simp at hl), if_pos ⟨hl, e0, by rw [e1, ht]; exact h.tries⟩, e1, ht, hd2, hd18]
    rw [← h.salt hs, List.take_left]
    obtain ⟨a, b, c, d⟩ := s
    simp only at hs
    subst hs
    rfl
end Go.Proofs.YtdgjjmaiibafhaaDoor
namespace Go.Proofs.YtdgjjmaiibafhaaDoor
open Go.RowKit

/-- No cell of that block is a byte. -/
def NoB (w : World) (g : Nat) : Prop := ∃ t cs, Blk w g t cs ∧ ∀ u ∈ cs.toList, ∀ x : UInt8, u ≠ B x
theorem NoB.below {w w' : World} {g : Nat} (h : NoB w g) (hb : Below w.heap.size w w') : NoB w' g := by
  obtain ⟨t, cs, h1, h2⟩ := h
  exact ⟨t, cs, h1.below hb, h2⟩
theorem NoB.ne {w : World} {g : Nat} (h : NoB w g) {A : Option Addr} {m c : Nat} {l : List UInt8} (hr : Rd w A m c l) (hm : 0 < m) : ∀ ad, A = some ad → ad.block ≠ g := by
  intro ad had e
  obtain ⟨t, cs, h1, h2⟩ := h
  obtain ⟨b, off, hA, hat⟩ := hr.addr hm
  rw [had] at hA
  injection hA with hA
  subst hA
  simp only at e
  subst e
  have hl : 0 < l.length := by rw [← hr.1]; exact hm
  have hc := hat.cell hl
  rw [h1.cell] at hc
  exact h2 _ (Array.mem_toList_iff.2 (Array.mem_of_getElem? hc)) _ rfl
theorem Rd.turnN {w w' : World} {A : Option Addr} {m c : Nat} {l : List UInt8} {S : List Nat} (h : Rd w A m c l) (hm : 0 < m) (ht : Turn S w w') (hS : ∀ g ∈ S, NoB w g) : Rd w' A m c l :=
  h.turn ht fun ad had hin => (hS _ hin).ne h hm ad had rfl
/-- Struct cells that are no bytes: for decide. -/
def Value.noByte : Value → Bool
  | .int .u8 _ => false
  | _ => true
theorem noByte_ne {u : Value} (h : Value.noByte u = true) (x : UInt8) : u ≠ B x := by
  intro e
  subst e
  exact absurd h (by simp [B, Value.noByte])
theorem NoB.of {w : World} {g : Nat} {t : TypeId} {cs : Array Value} (h : Blk w g t cs) (hc : cs.toList.all Value.noByte = true) : NoB w g :=
  ⟨t, cs, h, fun u hu x => noByte_ne (List.all_eq_true.1 hc u hu) x⟩
end Go.Proofs.YtdgjjmaiibafhaaDoor
namespace Go.Proofs.YtdgjjmaiibafhaaDoor
set_option maxRecDepth 100000
open Go.RowKit

theorem rd_three {w : World} {g : Nat} {A A' A2 : Option Addr} {m c m' c' m2 c2 : Nat} {l l' l2 : List UInt8} {t : TypeId} (hb : Blk w g t #[.slice A m c, .slice A' m' c', .slice A2 m2 c2]) (hr : Rd w A m c l) (hr' : Rd w A' m' c' l') (hr2 : Rd w A2 m2 c2 l2) :
    PartsAt w (some ⟨g, 0, none⟩) 3 3 [l, l', l2] := by
  refine ⟨rfl, Nat.le_refl _, by decide, fun _ => ⟨g, 0, rfl, hb.lt, fun i x hi => ?_⟩⟩
  match i, hi with
  | 0, hi => simp at hi; subst hi; exact ⟨A, m, c, by have := hb.cell 0; simpa using this, hr⟩
  | 1, hi => simp at hi; subst hi; exact ⟨A', m', c', by have := hb.cell 1; simpa using this, hr'⟩
  | 2, hi => simp at hi; subst hi; exact ⟨A2, m2, c2, by have := hb.cell 2; simpa using this, hr2⟩
  | k + 3, hi => simp at hi
/-- A state in memory. -/
def DrAt (w : World) (d : Nat) (s : DS) (left : Int) : Prop := ∃ A1 c1 A2 c2, Blk w d 51 #[.slice A1 32 c1, .slice A2 32 c2, .int .i64 left] ∧ Rd w A1 32 c1 s.K ∧ Rd w A2 32 c2 s.V
theorem DrAt.below {w w' : World} {d : Nat} {s : DS} {left : Int} (h : DrAt w d s left) (hb : Below w.heap.size w w') : DrAt w' d s left := by
  obtain ⟨A1, c1, A2, c2, h1, h2, h3⟩ := h
  exact ⟨A1, c1, A2, c2, h1.below hb, h2.below hb, h3.below hb⟩
theorem DrAt.noB {w : World} {d : Nat} {s : DS} {left : Int} (h : DrAt w d s left) : NoB w d := by
  obtain ⟨A1, c1, A2, c2, h1, _⟩ := h
  exact NoB.of h1 rfl
theorem DrAt.lt {w : World} {d : Nat} {s : DS} {left : Int} (h : DrAt w d s left) : d < w.heap.size := by
  obtain ⟨A1, c1, A2, c2, h1, _⟩ := h
  exact h1.lt
theorem DrAt.turn {w w' : World} {d : Nat} {s : DS} {left : Int} {S : List Nat} (h : DrAt w d s left) (ht : Turn S w w') (hd : d ∉ S) (hS : ∀ g ∈ S, NoB w g) : DrAt w' d s left := by
  obtain ⟨A1, c1, A2, c2, h1, h2, h3⟩ := h
  exact ⟨A1, c1, A2, c2, h1.turn ht hd, h2.turnN (by decide) ht hS, h3.turnN (by decide) ht hS⟩
theorem DrAt.ok {w : World} {d : Nat} {s : DS} {left : Int} (h : DrAt w d s left) : s.Ok := by
  obtain ⟨A1, c1, A2, c2, _, h2, h3⟩ := h
  exact ⟨h2.1.symm, h3.1.symm⟩
theorem one_noB (d : Nat) {w : World} (h : NoB w d) : ∀ g ∈ [d], NoB w g := fun g hg => by rw [List.mem_singleton] at hg; subst hg; exact h
theorem mac_any (d : Nat) (A1 : Option Addr) (c1 : Nat) (u : Value) (left : Int) (K : List UInt8) (A : Option Addr) (m c : Nat) (ls : List (List UInt8)) (w : World) (h : Blk w d 51 #[.slice A1 32 c1, u, .int .i64 left]) (hK : Rd w A1 32 c1 K)
    (hp : PartsAt w A m c ls) (hl : ls.flatten.length ≤ 140737488351500) (hT : KAt w) :
    Calls Tryd.prog 36 #[.pointer (some ⟨d, 0, none⟩), .slice A m c] w (RowRes w (hm K ls.flatten)) := by
  have h0 := h.cell 0
  simp at h0
  have hh := hmac_res 3 (by omega) A1 32 c1 K A m c ls w hK (by rw [← hK.1]; omega) hp hl hT
  have HH := Lib.hid hh
  clear hh h hK hp hl
  go_enter Tryd.func36, Tryd.ntmps36
  go_wp2_with fail
  refine HH.out.mono ?_
  rintro e w' ⟨A2, n2, c2, rfl, hO, hb⟩
  have HR := Lib.hid (And.intro hO hb)
  clear hO hb
  go_wp2_with fail
  go_ret
  exact ⟨A2, n2, c2, rfl, HR.out.1, HR.out.2⟩
theorem mac_three (d : Nat) (s : DS) (A1 A2 A3 : Option Addr) (c1 c2 m3 c3 : Nat) (left : Int) (X : UInt8) (data : List UInt8) (w : World) (h : Blk w d 51 #[.slice A1 32 c1, .slice A2 32 c2, .int .i64 left]) (hK : Rd w A1 32 c1 s.K) (hV : Rd w A2 32 c2 s.V) (hr : Rd w A3 m3 c3 data)
    (hl : data.length ≤ 140737488351300) (hT : KAt w) :
    Calls Tryd.prog 36 #[.pointer (some ⟨d, 0, none⟩), .slice (some ⟨w.heap.size + 1, 0, none⟩) 3 3] ((w.alloc (.cells #[.int .u8 X.toNat] 5)).alloc (.cells #[.slice A2 32 c2, .slice (some ⟨w.heap.size, 0, none⟩) 1 1, .slice A3 m3 c3] 22)) fun e w' =>
      ∃ A c, e = .returned (.slice A 32 c) ∧ Rd w' A 32 c (hm s.K (s.V ++ [X] ++ data)) ∧ Old w w' ∧ ∀ ad, A = some ad → w.heap.size ≤ ad.block := by
  have hO : Old w ((w.alloc (.cells #[.int .u8 X.toNat] 5)).alloc (.cells #[.slice A2 32 c2, .slice (some ⟨w.heap.size, 0, none⟩) 1 1, .slice A3 m3 c3] 22)) := ((Old.refl w).alloc _).alloc _
  have hb := Blk.new (w.alloc (.cells #[.int .u8 X.toNat] 5)) 22 #[.slice A2 32 c2, .slice (some ⟨w.heap.size, 0, none⟩) 1 1, .slice A3 m3 c3]
  rw [show (w.alloc (.cells #[.int .u8 X.toNat] 5)).heap.size = w.heap.size + 1 from by simp] at hb
  have hx : Rd ((w.alloc (.cells #[.int .u8 X.toNat] 5)).alloc (.cells #[.slice A2 32 c2, .slice (some ⟨w.heap.size, 0, none⟩) 1 1, .slice A3 m3 c3] 22)) (some ⟨w.heap.size, 0, none⟩) 1 1 [X] := (rd_lit (l2 := [X]) rfl rfl (by simp)).below ((Old.refl _).alloc _)
  refine (mac_any d A1 c1 _ left s.K _ 3 3 [s.V, [X], data] _ (h.below hO) (hK.below hO) (rd_three hb (hV.below hO) hx (hr.below hO)) (by have := hV.1; simp; omega) (hT.below hO)).mono ?_
  rintro e w' ⟨A, n, c, rfl, h1, h2⟩
  have hn := h1.len
  rw [hm_len32 _ _ (by rw [← hK.1]; omega) (by have := hV.1; simp; omega)] at hn
  subst hn
  refine ⟨A, c, rfl, ?_, Old.trans hO h2, fun ad had => Nat.le_trans hO.size (h1.addr_ge ad had)⟩
  have := h1.rd
  simpa using this
theorem mac_one (d : Nat) (s : DS) (A1 A2 : Option Addr) (c1 c2 : Nat) (left : Int) (w : World) (h : Blk w d 51 #[.slice A1 32 c1, .slice A2 32 c2, .int .i64 left]) (hK : Rd w A1 32 c1 s.K) (hV : Rd w A2 32 c2 s.V) (hT : KAt w) :
    Calls Tryd.prog 36 #[.pointer (some ⟨d, 0, none⟩), .slice (some ⟨w.heap.size, 0, none⟩) 1 1] (w.alloc (.cells #[.slice A2 32 c2] 22)) fun e w' =>
      ∃ A c, e = .returned (.slice A 32 c) ∧ Rd w' A 32 c (hm s.K s.V) ∧ Old w w' ∧ ∀ ad, A = some ad → w.heap.size ≤ ad.block := by
  have hO : Old w (w.alloc (.cells #[.slice A2 32 c2] 22)) := (Old.refl w).alloc _
  refine (mac_any d A1 c1 _ left s.K _ 1 1 [s.V] _ (h.below hO) (hK.below hO) (rd_one (Blk.new _ _ _) (hV.below hO)) (by have := hV.1; simp; omega) (hT.below hO)).mono ?_
  rintro e w' ⟨A, n, c, rfl, h1, h2⟩
  have hn := h1.len
  rw [hm_len32 _ _ (by rw [← hK.1]; omega) (by have := hV.1; simp; omega)] at hn
  subst hn
  refine ⟨A, c, rfl, ?_, Old.trans hO h2, fun ad had => Nat.le_trans hO.size (h1.addr_ge ad had)⟩
  have := h1.rd
  simpa using this
set_option maxHeartbeats 2000000 in
theorem update_any (d : Nat) (s : DS) (left : Int) (A3 : Option Addr) (m3 c3 : Nat) (data : List UInt8) (w : World) (h : DrAt w d s left) (hr : Rd w A3 m3 c3 data) (hl : data.length ≤ 140737488351300) (hT : KAt w) (hd : d ≠ 1) :
    Calls Tryd.prog 25 #[.pointer (some ⟨d, 0, none⟩), .slice A3 m3 c3] w fun e w' => e = .returned (.tuple #[]) ∧ DrAt w' d (s.upd data) left ∧ Turn [d] w w' := by
  obtain ⟨A1, c1, A2, c2, hB, h1, h2⟩ := h
  have hm3 : m3 = data.length := hr.1
  have q1 := hB.cell 1
  simp at q1
  have mc := mac_three d s A1 A2 A3 c1 c2 m3 c3 left 0 data w hB h1 h2 hr hl hT
  have H := Lib.hid (And.intro hB (And.intro h1 (And.intro h2 (And.intro hr (And.intro hT hd)))))
  have HM := Lib.hid hm3
  unfold DS.upd
  by_cases h0 : data.length = 0
  · have hz : (m3 : Int) = 0 := by omega
    have hzz : ¬ (0 : Int) < m3 := by omega
    have hzd : decide ((0 : Int) < m3) = false := decide_eq_false hzz
    rw [if_pos h0]
    clear hB h1 h2 hr hT hm3 hd HM h0 hl
    go_enter Tryd.func25, Tryd.ntmps25
    go_wp2_with fail
    refine mc.mono ?_
    rintro e wa1 ⟨Ak1, ck1, rfl, hk, hO, _⟩
    have hBa := Blk.below H.out.1 hO
    have f0 := hBa.frozen 0
    have q0 := hBa.cell 0
    simp at q0
    have HA1 := Lib.hid (And.intro hBa (And.intro hk hO))
    clear mc hBa hk hO q1
    obtain ⟨wb1, hwb⟩ : ∃ wb, wa1.setCell ⟨d, 0, none⟩ (.slice Ak1 32 ck1) = wb := ⟨_, rfl⟩
    have hBb : Blk wb1 d 51 #[.slice Ak1 32 ck1, .slice A2 32 c2, .int .i64 left] := by
      rw [← hwb]
      have := HA1.out.1.set_ 0 (.slice Ak1 32 ck1)
      simpa using this
    have hTb : Turn [d] w wb1 := by
      rw [← hwb]
      exact (Turn.of_below [d] HA1.out.2.2).setCell (.inl (by simp)) _
    have hTa : Turn [d] wa1 wb1 := by
      rw [← hwb]
      exact (Turn.refl _ _).setCell (.inl (by simp)) _
    have hkb : Rd wb1 Ak1 32 ck1 (hm s.K (s.V ++ [0] ++ data)) := HA1.out.2.1.turnN (by decide) hTa (one_noB d (NoB.of HA1.out.1 rfl))
    have hvb : Rd wb1 A2 32 c2 s.V := (H.out.2.2.1).turnN (by decide) hTb (one_noB d (NoB.of H.out.1 rfl))
    have hTb2 : KAt wb1 := (H.out.2.2.2.2.1).turn hTb (by simp; exact fun e => H.out.2.2.2.2.2 e.symm)
    have mc := mac_one d ⟨hm s.K (s.V ++ [0] ++ data), s.V⟩ Ak1 A2 ck1 c2 left wb1 hBb hkb hvb hTb2
    rw [show wb1.heap.size = wa1.heap.size from by rw [← hwb]; simp] at mc
    have HB1 := Lib.hid (And.intro hBb (And.intro hkb (And.intro hvb hTb)))
    have q1 := hBb.cell 1
    simp at q1
    have q1' : (wa1.setCell ⟨d, 0, none⟩ (.slice Ak1 32 ck1)).cell? ⟨d, 1, none⟩ = some (.slice A2 32 c2) := by rw [hwb]; exact q1
    have HW1 := Lib.hid hwb
    clear hBb hkb hvb hTb hTa hTb2 hwb q1
    go_wp2_with fail
    rw [HW1.out]
    refine mc.mono ?_
    rintro e wc1 ⟨Av1, cv1, rfl, hv, hO, _⟩
    have hBc := Blk.below HB1.out.1 hO
    have f1 := hBc.frozen 1
    have q1 := hBc.cell 1
    simp at q1
    obtain ⟨W1, hW⟩ : ∃ W, wc1.setCell ⟨d, 1, none⟩ (.slice Av1 32 cv1) = W := ⟨_, rfl⟩
    have hBd : Blk W1 d 51 #[.slice Ak1 32 ck1, .slice Av1 32 cv1, .int .i64 left] := by
      rw [← hW]
      have := hBc.set_ 1 (.slice Av1 32 cv1)
      simpa using this
    have hTc : Turn [d] wc1 W1 := by
      rw [← hW]
      exact (Turn.refl _ _).setCell (.inl (by simp)) _
    have hkd : Rd W1 Ak1 32 ck1 _ := (HB1.out.2.1.below hO).turnN (by decide) hTc (one_noB d (NoB.of hBc rfl))
    have hvd : Rd W1 Av1 32 cv1 _ := hv.turnN (by decide) hTc (one_noB d (NoB.of hBc rfl))
    have hTd : Turn [d] w W1 := (HB1.out.2.2.2.trans (Turn.of_below [d] hO) (fun x hx => .inl hx)).trans hTc (fun x hx => .inl hx)
    have E1 := Lib.hid (And.intro hBd (And.intro hkd (And.intro hvd hTd)))
    have HV1 := Lib.hid hW
    have HS1 := Lib.hid (show W1.heap.size = wc1.heap.size from by rw [← hW]; simp)
    clear mc hv hO hBc hBd hTc hkd hvd hTd hW q1'
    go_wp2_with fail
    rw [HV1.out]
    clear q1
    refine bodyPost_end (results_none rfl _ _ _) rfl ?_
    exact ⟨rfl, ⟨_, _, _, _, E1.out.1, E1.out.2.1, E1.out.2.2.1⟩, E1.out.2.2.2⟩
  · have hz : (0 : Int) < m3 := by omega
    have hzd : decide ((0 : Int) < m3) = true := decide_eq_true hz
    rw [if_neg h0]
    have hm0 : 0 < m3 := by omega
    have HN := Lib.hid (And.intro hm0 hl)
    clear hB h1 h2 hr hT hm3 hd HM hm0 h0 hl
    go_enter Tryd.func25, Tryd.ntmps25
    go_wp2_with fail
    refine mc.mono ?_
    rintro e wa1 ⟨Ak1, ck1, rfl, hk, hO, _⟩
    have hBa := Blk.below H.out.1 hO
    have f0 := hBa.frozen 0
    have q0 := hBa.cell 0
    simp at q0
    have HA1 := Lib.hid (And.intro hBa (And.intro hk hO))
    clear mc hBa hk hO q1
    obtain ⟨wb1, hwb⟩ : ∃ wb, wa1.setCell ⟨d, 0, none⟩ (.slice Ak1 32 ck1) = wb := ⟨_, rfl⟩
    have hBb : Blk wb1 d 51 #[.slice Ak1 32 ck1, .slice A2 32 c2, .int .i64 left] := by
      rw [← hwb]
      have := HA1.out.1.set_ 0 (.slice Ak1 32 ck1)
      simpa using this
    have hTb : Turn [d] w wb1 := by
      rw [← hwb]
      exact (Turn.of_below [d] HA1.out.2.2).setCell (.inl (by simp)) _
    have hTa : Turn [d] wa1 wb1 := by
      rw [← hwb]
      exact (Turn.refl _ _).setCell (.inl (by simp)) _
    have hkb : Rd wb1 Ak1 32 ck1 (hm s.K (s.V ++ [0] ++ data)) := HA1.out.2.1.turnN (by decide) hTa (one_noB d (NoB.of HA1.out.1 rfl))
    have hvb : Rd wb1 A2 32 c2 s.V := (H.out.2.2.1).turnN (by decide) hTb (one_noB d (NoB.of H.out.1 rfl))
    have hTb2 : KAt wb1 := (H.out.2.2.2.2.1).turn hTb (by simp; exact fun e => H.out.2.2.2.2.2 e.symm)
    have mc := mac_one d ⟨hm s.K (s.V ++ [0] ++ data), s.V⟩ Ak1 A2 ck1 c2 left wb1 hBb hkb hvb hTb2
    rw [show wb1.heap.size = wa1.heap.size from by rw [← hwb]; simp] at mc
    have HB1 := Lib.hid (And.intro hBb (And.intro hkb (And.intro hvb hTb)))
    have q1 := hBb.cell 1
    simp at q1
    have q1' : (wa1.setCell ⟨d, 0, none⟩ (.slice Ak1 32 ck1)).cell? ⟨d, 1, none⟩ = some (.slice A2 32 c2) := by rw [hwb]; exact q1
    have HW1 := Lib.hid hwb
    clear hBb hkb hvb hTb hTa hTb2 hwb q1
    go_wp2_with fail
    rw [HW1.out]
    refine mc.mono ?_
    rintro e wc1 ⟨Av1, cv1, rfl, hv, hO, _⟩
    have hBc := Blk.below HB1.out.1 hO
    have f1 := hBc.frozen 1
    have q1 := hBc.cell 1
    simp at q1
    obtain ⟨W1, hW⟩ : ∃ W, wc1.setCell ⟨d, 1, none⟩ (.slice Av1 32 cv1) = W := ⟨_, rfl⟩
    have hBd : Blk W1 d 51 #[.slice Ak1 32 ck1, .slice Av1 32 cv1, .int .i64 left] := by
      rw [← hW]
      have := hBc.set_ 1 (.slice Av1 32 cv1)
      simpa using this
    have hTc : Turn [d] wc1 W1 := by
      rw [← hW]
      exact (Turn.refl _ _).setCell (.inl (by simp)) _
    have hkd : Rd W1 Ak1 32 ck1 _ := (HB1.out.2.1.below hO).turnN (by decide) hTc (one_noB d (NoB.of hBc rfl))
    have hvd : Rd W1 Av1 32 cv1 _ := hv.turnN (by decide) hTc (one_noB d (NoB.of hBc rfl))
    have hTd : Turn [d] w W1 := (HB1.out.2.2.2.trans (Turn.of_below [d] hO) (fun x hx => .inl hx)).trans hTc (fun x hx => .inl hx)
    have E1 := Lib.hid (And.intro hBd (And.intro hkd (And.intro hvd hTd)))
    have HV1 := Lib.hid hW
    have HS1 := Lib.hid (show W1.heap.size = wc1.heap.size from by rw [← hW]; simp)
    clear mc hv hO hBc hBd hTc hkd hvd hTd hW q1'
    go_wp2_with fail
    rw [HV1.out]
    clear q1
    have q1 := E1.out.1.cell 1
    simp at q1
    have hr1 : Rd W1 A3 m3 c3 data := H.out.2.2.2.1.turnN HN.out.1 E1.out.2.2.2 (one_noB d (NoB.of H.out.1 rfl))
    have hT1 : KAt W1 := H.out.2.2.2.2.1.turn E1.out.2.2.2 (by simp; exact fun e => H.out.2.2.2.2.2 e.symm)
    have mc := mac_three d (s.half 0 data) Ak1 Av1 A3 ck1 cv1 m3 c3 left 1 data W1 E1.out.1 E1.out.2.1 E1.out.2.2.1 hr1 HN.out.2 hT1
    rw [HS1.out] at mc
    have HR1 := Lib.hid (And.intro hr1 hT1)
    clear hr1 hT1
    go_wp2_with fail
    refine mc.mono ?_
    rintro e wa2 ⟨Ak2, ck2, rfl, hk, hO, _⟩
    have hBa := Blk.below E1.out.1 hO
    have f0 := hBa.frozen 0
    have q0 := hBa.cell 0
    simp at q0
    have HA2 := Lib.hid (And.intro hBa (And.intro hk hO))
    clear mc hBa hk hO q1
    obtain ⟨wb2, hwb⟩ : ∃ wb, wa2.setCell ⟨d, 0, none⟩ (.slice Ak2 32 ck2) = wb := ⟨_, rfl⟩
    have hBb : Blk wb2 d 51 #[.slice Ak2 32 ck2, .slice Av1 32 cv1, .int .i64 left] := by
      rw [← hwb]
      have := HA2.out.1.set_ 0 (.slice Ak2 32 ck2)
      simpa using this
    have hTb : Turn [d] W1 wb2 := by
      rw [← hwb]
      exact (Turn.of_below [d] HA2.out.2.2).setCell (.inl (by simp)) _
    have hTa : Turn [d] wa2 wb2 := by
      rw [← hwb]
      exact (Turn.refl _ _).setCell (.inl (by simp)) _
    have hkb : Rd wb2 Ak2 32 ck2 (hm (s.half 0 data).K ((s.half 0 data).V ++ [1] ++ data)) := HA2.out.2.1.turnN (by decide) hTa (one_noB d (NoB.of HA2.out.1 rfl))
    have hvb : Rd wb2 Av1 32 cv1 (s.half 0 data).V := (E1.out.2.2.1).turnN (by decide) hTb (one_noB d (NoB.of E1.out.1 rfl))
    have hTb2 : KAt wb2 := (HR1.out.2).turn hTb (by simp; exact fun e => H.out.2.2.2.2.2 e.symm)
    have mc := mac_one d ⟨hm (s.half 0 data).K ((s.half 0 data).V ++ [1] ++ data), (s.half 0 data).V⟩ Ak2 Av1 ck2 cv1 left wb2 hBb hkb hvb hTb2
    rw [show wb2.heap.size = wa2.heap.size from by rw [← hwb]; simp] at mc
    have HB2 := Lib.hid (And.intro hBb (And.intro hkb (And.intro hvb hTb)))
    have q1 := hBb.cell 1
    simp at q1
    have q1' : (wa2.setCell ⟨d, 0, none⟩ (.slice Ak2 32 ck2)).cell? ⟨d, 1, none⟩ = some (.slice Av1 32 cv1) := by rw [hwb]; exact q1
    have HW2 := Lib.hid hwb
    clear hBb hkb hvb hTb hTa hTb2 hwb q1
    go_wp2_with fail
    rw [HW2.out]
    refine mc.mono ?_
    rintro e wc2 ⟨Av2, cv2, rfl, hv, hO, _⟩
    have hBc := Blk.below HB2.out.1 hO
    have f1 := hBc.frozen 1
    have q1 := hBc.cell 1
    simp at q1
    obtain ⟨W2, hW⟩ : ∃ W, wc2.setCell ⟨d, 1, none⟩ (.slice Av2 32 cv2) = W := ⟨_, rfl⟩
    have hBd : Blk W2 d 51 #[.slice Ak2 32 ck2, .slice Av2 32 cv2, .int .i64 left] := by
      rw [← hW]
      have := hBc.set_ 1 (.slice Av2 32 cv2)
      simpa using this
    have hTc : Turn [d] wc2 W2 := by
      rw [← hW]
      exact (Turn.refl _ _).setCell (.inl (by simp)) _
    have hkd : Rd W2 Ak2 32 ck2 _ := (HB2.out.2.1.below hO).turnN (by decide) hTc (one_noB d (NoB.of hBc rfl))
    have hvd : Rd W2 Av2 32 cv2 _ := hv.turnN (by decide) hTc (one_noB d (NoB.of hBc rfl))
    have hTd : Turn [d] W1 W2 := (HB2.out.2.2.2.trans (Turn.of_below [d] hO) (fun x hx => .inl hx)).trans hTc (fun x hx => .inl hx)
    have E2 := Lib.hid (And.intro hBd (And.intro hkd (And.intro hvd hTd)))
    have HV2 := Lib.hid hW
    have HS2 := Lib.hid (show W2.heap.size = wc2.heap.size from by rw [← hW]; simp)
    clear mc hv hO hBc hBd hTc hkd hvd hTd hW q1'
    go_wp2_with fail
    rw [HV2.out]
    clear q1
    refine bodyPost_end (results_none rfl _ _ _) rfl ?_
    exact ⟨rfl, ⟨_, _, _, _, E2.out.1, E2.out.2.1, E2.out.2.2.1⟩, E1.out.2.2.2.trans E2.out.2.2.2 (fun x hx => .inl hx)⟩
end Go.Proofs.YtdgjjmaiibafhaaDoor
