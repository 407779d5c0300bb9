/-
  begun of the AES laws: one block is told.
  What a law's statement gives its walk: the arguments as values; the arguments read behind the call as they did. Over any law of this seat.
  'baileylaw5.AesBack' returns true: decrypting undoes encrypting. No condition.
  Modes: a stream made: begin, New.
-/
import Derived.Test.YtiocmebcbhbcmaaZzAesR1
import Derived.Test.YtiocmebcbhbcmaaAes4
import Derived.Lib.SlBytesConst
import Derived.Test.YtiocmebcbhbcmaaZzReg
import Derived.Test.YtiocmebcbhbcmaaRows
import Derived.ProofKit
import Derived.LaidMore
import Derived.OpenShut
import Derived.Carry
import Derived.Stop.Joined
import Derived.Test.YtiocmebcbhbcmaaZzAesQ
import Derived.Test.YtiocmebcbhbcmaaMo11
namespace Go.Proofs.Ytiocmebcbhbcmaa
open Go.RowKit
attribute [local go_sem] Oper.semAt_some

def KEY : List UInt8 := [0, 1, 2, 3, 4, 5, 6, 7, 8, 9, 10, 11, 12, 13, 14, 15]
def PT : List UInt8 := [0, 17, 34, 51, 68, 85, 102, 119, 136, 153, 170, 187, 204, 221, 238, 255]
def CT : List UInt8 := [105, 196, 224, 216, 106, 123, 4, 48, 216, 205, 183, 128, 112, 180, 197, 90]
theorem enc_known : encL (rks KEY) 11 PT = CT := by decide +kernel
theorem neSeq (f : FuncId) (lb : Array Value) (w : World) : (binOp .eql 77 (.func (.func f) #[] lb) Value.nilFunc).run Try.prog w = .ok (.bool false) w := by kernel_rfl
end Go.Proofs.Ytiocmebcbhbcmaa
namespace Go.Proofs.Ytiocmebcbhbcmaa
set_option maxRecDepth 100000
open Go.RowKit Go.ChangeShapes Go.WideShapes Go.ChangeAt

theorem ownKnob_none : ownKnob Try.prog.godebug = none := by kernel_rfl
theorem laid_out : laidOutB Try.prog = true := by kernel_rfl
section
variable {H : Type} {enc : TypeId × Value → H}
/-- A slice of bytes that came in. -/
theorem open_rd {W : World} {base : Nat} {v : Value} {d : DataW H} {p : List MemPlace} (hval : Value.okWide Try.prog W .any base 22 v) (h : DataW.Trod enc Try.prog W 0 (fun _ => true) true 22 v d p) :
    ∃ A m c l, v = .slice A m c ∧ Rd W A m c l := by
  have hval' := hval
  obtain ⟨a1, len, cap, rfl⟩ := okWide_slice Try.underlying22 hval
  obtain ⟨fuel, hf⟩ := h
  rcases open_ints Try.underlying22 Try.underlying5 (show Try.prog.cellsOf 5 = 1 by kernel_rfl) hf with ⟨hcs, hx⟩ | ⟨a, len', cap', zs, hcs, _, hl, hm, hz, hx, hcell, hwz⟩
  · simp [Value.cells] at hcs
    obtain ⟨rfl, rfl, rfl⟩ := hcs
    exact ⟨_, _, _, [], rfl, Rd.nil W⟩
  · simp [Value.cells] at hcs
    obtain ⟨rfl, rfl, rfl⟩ := hcs
    simp only [if_true] at hz
    unfold Value.okWide Cell.okWide Cell.ok at hval'
    rw [Try.underlying22] at hval'
    obtain ⟨_, _, _, hspot, row, cells, hsh, _⟩ := hval'
    have hlt : a.block < W.heap.size := by
      unfold World.shape? at hsh
      rcases Nat.lt_or_ge a.block W.heap.size with h | h
      · exact h
      · rw [Array.getElem?_eq_none h] at hsh; cases hsh
    obtain ⟨ab, ao, spot⟩ := a
    simp only at hspot hlt
    subst hspot
    refine ⟨_, len, cap, (zs.take len).map fun n => UInt8.ofNat n.toNat, rfl, by simp; omega, hl, hm, .inr ⟨ab, ao, rfl, hlt, fun k x hk => ?_⟩⟩
    have hk' : k < len := by
      have := (List.getElem?_eq_some_iff.1 hk).1
      simp at this; omega
    have hc := hcell k (by omega)
    rw [Addr.add_lit] at hc
    rw [hc]
    have e : zs[k]? = some (zs.getD k 0) := by simp [List.getD, List.getElem?_eq_getElem (show k < zs.length by omega)]
    rw [List.getElem?_map, List.getElem?_take, if_pos hk', e] at hk
    simp only [Option.map_some, Option.some.injEq] at hk
    have hw := hwz (zs.getD k 0) (List.mem_of_getElem? e)
    have hr : 0 ≤ zs.getD k 0 ∧ zs.getD k 0 ≤ 255 := by
      simpa [Lit.wf, IntKind.min, IntKind.max, IntKind.bits, IntKind.signed] using hw
    subst hk
    unfold B
    rw [UInt8.toNat_ofNat']
    congr 2
    omega
theorem below_all {W W' : World} (hb : Below W.heap.size W W') : ∀ {ts : List TypeId} {vs : List Value} {ds : List (DataW H)} {ps : List MemPlace}, (∀ t ∈ ts, Try.prog.readableRec t = true ∧ t < Try.prog.types.size) →
    DataW.TrodAll enc Try.prog W 0 (fun _ => true) true ts vs ds ps → (∀ x ∈ ps, x.block < W.heap.size) → DataW.TrodAll enc Try.prog W' 0 (fun b => decide (b < W.heap.size)) true ts vs ds ps
  | [], [], [], _, _, h, _ => h
  | _ :: _, _ :: _, _ :: _, _, hT, ⟨p, q, h1, h2, e⟩, hs =>
    ⟨p, q, Below.trod laid_out (hT _ (List.mem_cons.2 (.inl rfl))).1 (hT _ (List.mem_cons.2 (.inl rfl))).2 h1 hb (fun x hx => hs x (by rw [e]; exact List.mem_append_left _ hx)),
      below_all hb (fun t ht => hT t (List.mem_cons.2 (.inr ht))) h2 (fun x hx => hs x (by rw [e]; exact List.mem_append_right _ hx)), e⟩
theorem u8_wf {n : Int} (h : (Lit.int .u8 n).wf = true) : ∃ x : UInt8, n = (x.toNat : Int) := by
  have hr : 0 ≤ n ∧ n ≤ 255 := by simpa [Lit.wf, IntKind.min, IntKind.max, IntKind.bits, IntKind.signed] using h
  refine ⟨UInt8.ofNat n.toNat, ?_⟩
  rw [UInt8.toNat_ofNat']
  omega
theorem i64_wf {n : Int} (h : (Lit.int .i64 n).wf = true) : -9223372036854775808 ≤ n ∧ n ≤ 9223372036854775807 := by
  simpa [Lit.wf, IntKind.min, IntKind.max, IntKind.bits, IntKind.signed] using h
/-- What a law's walk owes: 'true'; nothing that was there has turned. -/
def LawRes (W : World) (e : Ending) (W' : World) : Prop := e = .returned (.bool true) ∧ Below W.heap.size W W'
theorem law_post {f : Func} {s : ChangeSpec} {W W' : World} {args : Array Value} {ds : List (DataW H)} {ps : List MemPlace} {handsOn : Bool} {fresh : Bool} (hv : s.vars = []) (hr : f.resultTypes = #[4]) (hT : ∀ t ∈ f.params.toList, Try.prog.readableRec t = true ∧ t < Try.prog.types.size)
    (hW : DataW.Whole enc Try.prog f.params.toList s.vars false W args.toList ds [] ps) (hs : s.fn H ds = { results := [.lit (.bool true)], args := ds }) (hb : Below W.heap.size W W') : s.post enc Try.prog f false fresh handsOn false W args (.bool true) W' := by
  have hW' := hW
  have hlt := hW.lt
  obtain ⟨p, q, hA, hV, rfl, _, _⟩ := hW
  rw [hv] at hV
  obtain ⟨_, rfl⟩ := trodVars_none hV
  simp only [List.append_nil] at *
  refine ⟨ds, [], p, [], p, [], hW', ?_, ?_, ?_, hb.frame _, fun h => by cases h⟩
  · rw [List.append_nil, hs, hr]
    exact trodAll_mk1 (shut_bool Try.underlying4 _)
  · rw [List.append_nil, hs]
    exact below_all hb hT hA hlt
  · rw [List.append_nil, hs, hv]
    rfl
end
end Go.Proofs.Ytiocmebcbhbcmaa
namespace Go.Proofs.Ytiocmebcbhbcmaa
open Go.RowKit

set_option maxRecDepth 100000 in
theorem new_no (A : Option Addr) (m c : Nat) (w : World) (h : m ≠ 16 ∧ m ≠ 24 ∧ m ≠ 32) :
    Calls Try.prog 38 #[.slice A m c] w fun e w' => e = .returned (.pointer none) ∧ w' = w := by
  have h1 : ((m : Int) != 16) = true := by simp; omega
  have h2 : ((m : Int) != 24) = true := by simp; omega
  have h3 : ((m : Int) != 32) = true := by simp; omega
  have h1' : ¬ (m : Int) = 16 := by omega
  have h2' : ¬ (m : Int) = 24 := by omega
  have h3' : ¬ (m : Int) = 32 := by omega
  go_enter Try.func38, Try.ntmps38
  go_wp2
  go_ret
  exact ⟨rfl, rfl⟩
end Go.Proofs.Ytiocmebcbhbcmaa
namespace Go.Proofs.Ytiocmebcbhbcmaa
set_option maxRecDepth 100000
open Go.RowKit

def ltN (x : UInt8) (n : Int) : Bool := decide ((x.toNat : Int) < n)
theorem lssI_B (t : TypeId) (x : UInt8) (n : Int) : binOp .lss t (B x) (.int .u8 n) = pure (.bool (ltN x n)) := by
  rw [show B x = .int .u8 (x.toNat : Int) from rfl]
  exact binOp_lss t .u8 _ _
attribute [local go_sem] lssI_B
/-- What a stream was made of. -/
structure PS where
  mode : Nat
  enc : Bool
  ks : List UInt8
  R : Nat
  p : List UInt8
def PS.E (s : PS) : List UInt8 → List UInt8 := encL s.ks s.R
def PS.D (s : PS) : List UInt8 → List UInt8 := decL s.ks s.R
def PS.keep (s : PS) : Nat := if s.mode = 3 ∧ s.enc = false then 1 else 0
def PS.nb (s : PS) (n : Nat) : Nat := (n - s.keep) / 16
def PS.j (s : PS) : List UInt8 := gcmJ s.E s.p
def PS.c0 (s : PS) : List UInt8 := if s.mode = 4 then s.p.drop 1 else stepL 32 s.j
def PS.wd (s : PS) : Nat := if s.mode = 4 then (s.p.getD 0 0).toNat else 32
def PS.data (s : PS) : List UInt8 := s.p.drop (1 + (s.p.getD 0 0).toNat)
def PS.cn (s : PS) (all : List UInt8) : List UInt8 × List UInt8 × List UInt8 := cnt1 s.E s.wd all [] s.c0
def PS.blk (s : PS) (all : List UInt8) : List UInt8 × List UInt8 := blkN s.mode s.enc s.E s.D (s.nb all.length) s.p all
/-- A mode's parameter. -/
def parOk (mode : Nat) (p : List UInt8) : Prop :=
  if mode = 1 then p = [] else if mode = 4 then p.length = 17 ∧ 1 ≤ (p.getD 0 0).toNat ∧ (p.getD 0 0).toNat ≤ 128 else if mode = 5 then gcmOk p else p.length = 16
instance (mode : Nat) (p : List UInt8) : Decidable (parOk mode p) := by unfold parOk; infer_instance
/-- A stream of blocks in memory, that took all in. -/
structure StrB (w : World) (G : List Nat) (d : Nat) (s : PS) (all : List UInt8) (x : BX) (W : Option Addr) (m cw : Nat) (L : Option Addr) (nl cl : Nat) : Prop where
  xd : x.d = d
  xm : x.mode = s.mode
  xe : x.enc = s.enc
  xk : x.ks = s.ks
  xr : x.R = s.R
  bk : BkW w x W m cw (all.drop (16 * s.nb all.length)) L nl cl (s.blk all).2
  g1 : d ∈ G ∧ x.c ∈ G ∧ x.K ∈ G
  g2 : ∀ ad, (W = some ad ∨ L = some ad) → ad.block ∈ G
/-- A stream with a counter in memory. -/
structure StrG (w : World) (G : List Nat) (d : Nat) (s : PS) (wl ctr pl ol : List UInt8) (x : GX) (W P M D O : Vw) : Prop where
  xd : x.d = d
  xm : x.mode = s.mode
  xe : x.enc = s.enc
  xk : x.ks = s.ks
  xr : x.R = s.R
  xw : x.wd = s.wd
  gc : GcAt w x W ctr P M D O
  wl : W.l = wl
  pl : P.l = pl
  ol : O.l = ol
  md : s.mode = 5 → M.l = s.E s.j ∧ D.l = s.data
  wn : s.mode = 4 ∨ s.enc = true → W = nilW
  on : s.mode = 4 ∨ s.enc = false → O = nilW
  g1 : d ∈ G ∧ x.c ∈ G ∧ x.K ∈ G ∧ x.gc ∈ G
  g2 : ∀ ad, (W.A = some ad ∨ P.A = some ad ∨ M.A = some ad ∨ D.A = some ad ∨ O.A = some ad) → ad.block ∈ G
def StrAt (w : World) (G : List Nat) (d : Nat) (s : PS) (all : List UInt8) : Prop :=
  ((s.mode = 1 ∨ s.mode = 2 ∨ s.mode = 3) ∧ ∃ x W m cw L nl cl, StrB w G d s all x W m cw L nl cl) ∨
  (s.mode = 4 ∧ ∃ x W P M D O, StrG w G d s [] (s.cn all).2.2 (s.cn all).2.1 [] x W P M D O) ∨
  (s.mode = 5 ∧ s.enc = true ∧ ∃ x W P M D O, StrG w G d s [] (s.cn all).2.2 (s.cn all).2.1 (s.cn all).1 x W P M D O) ∨
  (s.mode = 5 ∧ s.enc = false ∧ ∃ x W P M D O, StrG w G d s all s.c0 [] [] x W P M D O)
theorem blkN_zero (mode : Nat) (enc : Bool) (E D : List UInt8 → List UInt8) (iv l : List UInt8) : blkN mode enc E D 0 iv l = ([], iv) := rfl
theorem PS.nb0 (s : PS) : s.nb ([] : List UInt8).length = 0 := by unfold PS.nb; simp
/-- What New leaves. -/
def NewRes (w : World) (s : PS) (w' : World) (d : Nat) : Prop := ∃ G, StrAt w' G d s [] ∧ (∀ x ∈ G, w.heap.size ≤ x ∧ x < w'.heap.size) ∧ Old w w'
/-- begin on a stream as New builds it. -/
def BegRes (w : World) (d : Nat) (s : PS) (e : Ending) (w' : World) : Prop := (e = .returned (.bool false) ∧ ¬ parOk s.mode s.p ∧ Turn [d] w w') ∨ (e = .returned (.bool true) ∧ parOk s.mode s.p ∧ Turn [d] w w' ∧ ∀ B, B ≤ d → (∀ c, w.cell? ⟨d, 2, none⟩ = some (.pointer (some ⟨c, 0, none⟩)) → B ≤ c) → B ≤ w.heap.size → ∃ G, StrAt w' G d s [])
theorem begB_any (d c kb R cp mode : Nat) (enc : Bool) (ks : List UInt8) (A : Option Addr) (m cm : Nat) (p : List UInt8) (w : World) (h : Blk w d 59 (st0 mode enc c)) (hc : Cip w 0 c ks kb R cp) (hp : Own w 0 (.slice A m cm) p) (hm : m ≤ 2000000) (hmode : mode = 1 ∨ mode = 2 ∨ mode = 3) :
    Calls Try.prog 39 #[.pointer (some ⟨d, 0, none⟩), .slice A m cm] w fun e w' => Turn [d] w w' ∧ ((e = .returned (.bool false) ∧ ¬ parOk mode p) ∨ (e = .returned (.bool true) ∧ parOk mode p ∧ ∃ (L : Option Addr) (nl cl : Nat), BkW w' ⟨d, c, kb, R, cp, mode, enc, ks⟩ none 0 0 [] L nl cl p ∧ (∀ ad, L = some ad → ∃ a0, A = some a0 ∧ ad.block = a0.block))) := by
  have hml := hp.len
  have y0 := h.cell 0
  simp only [st0, stB, List.getElem?_toArray, List.getElem?_cons_zero, List.getElem?_cons_succ] at y0
  have hNd : NoB w d := NoB.of h rfl
  by_cases h1 : mode = 1
  · subst h1
    rw [show ((1 : Nat) : Int) = 1 from rfl] at y0
    have HH := Lib.hid (And.intro h (And.intro hc (And.intro hp hml)))
    clear h hc hml hp hmode hNd
    by_cases h0 : m = 0
    · subst h0
      go_enter Try.func39, Try.ntmps39
      go_wp2_with fail
      go_ret
      have hp0 : p = [] := List.length_eq_zero_iff.1 HH.out.2.2.2.symm
      subst hp0
      refine ⟨Turn.refl _ _, .inr ⟨rfl, by unfold parOk; rw [if_pos rfl], none, 0, 0, ⟨⟨HH.out.1, HH.out.2.1, Rd.nil _, fun e => absurd rfl e⟩, OwnO.nil _ _, Ahead.none _ _ _, fun b e => by cases e⟩, fun ad e => by cases e⟩⟩
    · have hb : ((m : Int) == 0) = false := by simp; omega
      have hb1 : ¬ (m : Int) = 0 := by omega
      go_enter Try.func39, Try.ntmps39
      go_wp2_with fail
      go_ret
      refine ⟨Turn.refl _ _, .inl ⟨rfl, fun e => ?_⟩⟩
      unfold parOk at e
      rw [if_pos rfl] at e
      have := HH.out.2.2.2
      rw [e] at this
      simp at this
      omega
  · have hpo : parOk mode p ↔ p.length = 16 := by unfold parOk; rw [if_neg h1, if_neg (by omega), if_neg (by omega)]
    have a1 : ((mode : Int) == 1) = false := by simp; omega
    have a2 : ¬ (mode : Int) = 1 := by omega
    have a3 : ((mode : Int) == 4) = false := by simp; omega
    have a4 : ¬ (mode : Int) = 4 := by omega
    have a5 : ((mode : Int) == 5) = false := by simp; omega
    have a6 : ¬ (mode : Int) = 5 := by omega
    have y3 := h.cell 3
    have f3 := h.frozen 3
    simp only [st0, stB, List.getElem?_toArray, List.getElem?_cons_zero, List.getElem?_cons_succ] at y3
    have hT : Turn [d] w (w.setCell ⟨d, 3, none⟩ (.slice A m cm)) := turn_put
    have hB3 := h.set_ 3 (.slice A m cm)
    have hr3 := hp.rd.turnB hT (fun g hg => by simp at hg; subst hg; exact hNd)
    have hc3 := hc.turn hT (by simp; exact (hc.nd h hNd).1) (by simp; exact (hc.nd h hNd).2)
    have HH := Lib.hid (And.intro hT (And.intro hB3 (And.intro hr3 (And.intro hc3 (And.intro hml hpo)))))
    clear h hc hp hmode hNd h1 hT hB3 hr3 hc3 hml hpo
    by_cases h16 : m = 16
    · have hb16 : ((m : Int) == 16) = true := by rw [h16]; rfl
      have HM := Lib.hid h16
      clear h16
      go_enter Try.func39, Try.ntmps39
      go_wp2_with fail
      go_ret
      exact ⟨HH.out.1, .inr ⟨rfl, HH.out.2.2.2.2.2.2 (by rw [← HH.out.2.2.2.2.1]; exact HM.out), A, m, cm, ⟨⟨HH.out.2.1, HH.out.2.2.2.1, HH.out.2.2.1, fun _ => HM.out⟩, OwnO.nil _ _, fun a b _ e => (by cases e), fun b e => (by cases e)⟩, fun ad e => ⟨ad, e, rfl⟩⟩⟩
    · have hb16 : ((m : Int) == 16) = false := by simp; omega
      have hb17 : ¬ (m : Int) = 16 := by omega
      have HM := Lib.hid h16
      clear h16
      go_enter Try.func39, Try.ntmps39
      go_wp2_with fail
      go_ret
      exact ⟨HH.out.1, .inl ⟨rfl, fun e => HM.out (by rw [HH.out.2.2.2.2.1]; exact HH.out.2.2.2.2.2.1 e)⟩⟩
theorem begG_any (d c kb R cp : Nat) (enc : Bool) (ks : List UInt8) (A : Option Addr) (m cm : Nat) (p : List UInt8) (w : World) (h : Blk w d 59 (st0 5 enc c)) (hc : Cip w 0 c ks kb R cp) (hp : Own w 0 (.slice A m cm) p) (hm : m ≤ 2000000) :
    Calls Try.prog 39 #[.pointer (some ⟨d, 0, none⟩), .slice A m cm] w fun e w' => Turn [d] w w' ∧ ((e = .returned (.bool false) ∧ ¬ parOk 5 p) ∨ (e = .returned (.bool true) ∧ parOk 5 p ∧ ∃ (gc cc : Nat) (M D : Vw), GcAt w' ⟨d, c, kb, R, cp, ks, 5, enc, gc, 0, cc, 32⟩ nilW (stepL 32 (gcmJ (encL ks R) p)) nilW M D nilW ∧
      M.l = encL ks R (gcmJ (encL ks R) p) ∧ D.l = p.drop (1 + (p.getD 0 0).toNat) ∧ w.heap.size ≤ gc ∧ (∀ ad, M.A = some ad → w.heap.size ≤ ad.block) ∧ (∀ ad, D.A = some ad → ∃ a0, A = some a0 ∧ ad.block = a0.block))) := by
  have hpo : parOk 5 p ↔ gcmOk p := by unfold parOk; rw [if_neg (by decide), if_neg (by decide), if_pos rfl]
  have y0 := h.cell 0
  simp only [st0, stB, List.getElem?_toArray, List.getElem?_cons_zero, List.getElem?_cons_succ] at y0
  rw [show ((5 : Nat) : Int) = 5 from rfl] at y0
  by_cases hk : gcmOk p
  · have hcall := gcm_any d c kb R cp enc ks A m cm p w h hc hp hm hk
    have HH := Lib.hid (And.intro hcall (hpo.2 hk))
    clear h hc hp hcall hpo hk
    go_enter Try.func39, Try.ntmps39
    go_wp2_with fail
    refine HH.out.1.mono ?_
    rintro e w1 ⟨rfl, gc, cc, M, D, g1, g2, g3, g4, g5, g6, g7⟩
    have HR := Lib.hid (And.intro g1 (And.intro g2 (And.intro g3 (And.intro g4 (And.intro g5 (And.intro g6 g7))))))
    clear g1 g2 g3 g4 g5 g6 g7
    go_wp2_with fail
    go_ret
    exact ⟨HR.out.2.2.2.2.2.2, .inr ⟨rfl, HH.out.2, gc, cc, M, D, HR.out.1, HR.out.2.1, HR.out.2.2.1, HR.out.2.2.2.1, HR.out.2.2.2.2.1, HR.out.2.2.2.2.2.1⟩⟩
  · have hcall := gcm_no d _ A m cm p w h hp.rd hm hk
    have HH := Lib.hid (And.intro hcall (fun e => hk (hpo.1 e)))
    clear h hc hp hcall hpo hk
    go_enter Try.func39, Try.ntmps39
    go_wp2_with fail
    refine HH.out.1.mono ?_
    rintro e w1 ⟨rfl, rfl⟩
    go_wp2_with fail
    go_ret
    exact ⟨Turn.refl _ _, .inl ⟨rfl, HH.out.2⟩⟩
def BegC (d c kb R cp : Nat) (enc : Bool) (ks : List UInt8) (A : Option Addr) (p : List UInt8) (w : World) (e : Ending) (w' : World) : Prop :=
  Turn [d] w w' ∧ ((e = .returned (.bool false) ∧ ¬ parOk 4 p) ∨ (e = .returned (.bool true) ∧ parOk 4 p ∧ ∃ (gc cc : Nat), GcAt w' ⟨d, c, kb, R, cp, ks, 4, enc, gc, 1, cc, (p.getD 0 0).toNat⟩ nilW (p.drop 1) nilW nilW nilW nilW ∧
      (∃ a0, A = some a0 ∧ gc = a0.block)))
set_option maxHeartbeats 2000000 in
theorem begC_any (d c kb R cp : Nat) (enc : Bool) (ks : List UInt8) (A : Option Addr) (m cm : Nat) (p : List UInt8) (w : World) (h : Blk w d 59 (st0 4 enc c)) (hc : Cip w 0 c ks kb R cp) (hp : Own w 0 (.slice A m cm) p) (hm : m ≤ 2000000)
    (hsep : ∀ ad, A = some ad → ad.block ≠ c ∧ ad.block ≠ kb) :
    Calls Try.prog 39 #[.pointer (some ⟨d, 0, none⟩), .slice A m cm] w (BegC d c kb R cp enc ks A p w) := by
  have hpo : parOk 4 p ↔ p.length = 17 ∧ 1 ≤ (p.getD 0 0).toNat ∧ (p.getD 0 0).toNat ≤ 128 := by unfold parOk; rw [if_neg (by decide), if_pos rfl]
  have y0 := h.cell 0
  simp only [st0, stB, List.getElem?_toArray, List.getElem?_cons_zero, List.getElem?_cons_succ] at y0
  rw [show ((4 : Nat) : Int) = 4 from rfl] at y0
  have hml := hp.len
  by_cases h17 : m = 17
  · obtain ⟨g, cm', e⟩ := hp.form (by intro e; injection e with _ e2 _; omega)
    injection e with e1 e2 e3
    subst e1 e3
    clear e2
    obtain ⟨z, hz⟩ : ∃ z, p[0]? = some z := ⟨_, List.getElem?_eq_getElem (by omega)⟩
    have hzd : p.getD 0 0 = z := by rw [List.getD_eq_getElem?_getD, hz]; rfl
    have hz0 := hp.at_.2 0 z hz
    rw [Nat.add_zero] at hz0
    have hcv := conv_Bi z
    rw [hzd] at hpo
    subst h17
    have hmc := hp.rd.2.1
    have hmm := hp.rd.2.2.1
    by_cases hr : 1 ≤ z.toNat ∧ z.toNat ≤ 128
    · have g1 : ltN z 1 = false := decide_eq_false (by omega)
      have g2 : gtN z 128 = false := decide_eq_false (by omega)
      have hNd : NoB w d := NoB.of h rfl
      have hgd : g ≠ d := fun e => by
        subst e
        exact hp.notin (Blk.noRow h (by decide)) rfl
      obtain ⟨n, hzn⟩ : ∃ n, z.toNat = n := ⟨_, rfl⟩
      rw [hzn] at hcv hpo hr
      have y5 := h.cell 5
      have y6 := h.cell 6
      have f5 := h.frozen 5
      have f6 := h.frozen 6
      simp only [st0, stB, List.getElem?_toArray, List.getElem?_cons_zero, List.getElem?_cons_succ] at y5 y6
      have hB6 := (h.drew.set_ 6 (.int .i64 (n : Int))).set_ 5 (.slice (some ⟨g, 1, none⟩) 16 (cm - 1))
      have hT6 : Turn [d] w ((w.drew.setCell ⟨d, 6, none⟩ (.int .i64 (n : Int))).setCell ⟨d, 5, none⟩ (.slice (some ⟨g, 1, none⟩) 16 (cm - 1))) := ((Turn.drew (Turn.refl [d] w)).trans turn_put (fun y hy => .inl hy)).trans turn_put (fun y hy => .inl hy)
      have hC6 := (CtrAt.of_own hp 1 rfl).turn hT6 (by simp; exact hgd)
      have hc6 := hc.turn hT6 (by simp; exact (hc.nd h hNd).1) (by simp; exact (hc.nd h hNd).2)
      have hck := hsep _ rfl
      have hsl := fun W : World => slice_from (some ⟨g, 0, none⟩) 17 cm 1 (by omega) W
      rw [if_neg (by omega), show ((1 : Nat) : Int) = 1 from rfl] at hsl
      simp only [Option.map_some, Addr.add_mid, Nat.zero_add] at hsl
      have HH := Lib.hid (And.intro hT6 (And.intro hB6 (And.intro hC6 (And.intro hc6 (And.intro hck (And.intro hgd (hpo.2 ⟨hml.symm, hr⟩)))))))
      have HQ := Lib.hid (And.intro hz0 hgd)
      have HR := Lib.hid (And.intro hmc (And.intro hmm (And.intro hr (hzd ▸ hzn : (p.getD 0 0).toNat = n))))
      clear h hc hp hpo hNd hgd hzn hB6 hT6 hC6 hc6 hck hsep hz hzd hml
      go_enter Try.func39, Try.ntmps39
      go_upto_region 7 with fail
      refine region_wordM (Turn [d] w) (by kernel_rfl) (Turn.drew (Turn.refl _ _)) (fun hOd hHeld => ?_)
      obtain ⟨wd, hwd⟩ : ∃ wd, w.drew = wd := ⟨_, rfl⟩
      have y5d : wd.cell? ⟨d, 5, none⟩ = some (.slice none 0 0) := by rw [← hwd]; exact y5
      have y6d : wd.cell? ⟨d, 6, none⟩ = some (.int .i64 0) := by rw [← hwd]; exact y6
      have f5d : wd.frozen? ⟨d, 5, none⟩ = false := by rw [← hwd]; exact f5
      have f6d : wd.frozen? ⟨d, 6, none⟩ = false := by rw [← hwd]; exact f6
      rw [hwd] at hOd hHeld ⊢
      clear y5 y6 f5 f6
      refine takeL (i := 0) (v := ?_) rfl (by kernel_rfl) (by kernel_rfl) (by kernel_rfl) (fun _ _ _ h => h) (Or.inl ⟨by rfl, ?_⟩) hHeld ?_
      rotate_left
      focus (intro wq hSw; clear hSw; go_simp; try with_reducible rfl)
      try simp only [Act.put, List.setIfInBounds_toArray, List.set_cons_zero, List.set_cons_succ]
      refine takeL (i := 1) (v := ?_) rfl (by kernel_rfl) (by kernel_rfl) (by kernel_rfl) (fun _ _ _ h => h) (Or.inl ⟨by rfl, ?_⟩) hHeld ?_
      rotate_left
      focus (intro wq hSw; clear hSw; go_simp; try with_reducible rfl)
      try simp only [Act.put, List.setIfInBounds_toArray, List.set_cons_zero, List.set_cons_succ]
      refine takeL (i := 2) (v := ?_) rfl (by kernel_rfl) (by kernel_rfl) (by kernel_rfl) (fun _ _ _ h => h) (Or.inl ⟨by rfl, ?_⟩) hHeld ?_
      rotate_left
      focus (intro wq hSw; clear hSw; go_simp; try with_reducible rfl)
      try simp only [Act.put, List.setIfInBounds_toArray, List.set_cons_zero, List.set_cons_succ]
      refine takeL (i := 3) (v := ?_) rfl (by kernel_rfl) (by kernel_rfl) (by kernel_rfl) (fun _ _ _ h => h) (Or.inl ⟨by rfl, ?_⟩) hHeld ?_
      rotate_left
      focus (intro wq hSw; clear hSw; go_simp; try with_reducible rfl)
      try simp only [Act.put, List.setIfInBounds_toArray, List.set_cons_zero, List.set_cons_succ]
      refine takeL (i := 4) (v := ?_) rfl (by kernel_rfl) (by kernel_rfl) (by kernel_rfl) (fun _ _ _ h => h) (Or.inl ⟨by rfl, ?_⟩) hHeld ?_
      rotate_left
      focus (intro wq hSw; have r4 := cell_turn HQ.out.1 hSw (by simp; exact HQ.out.2); clear hSw; go_simp; try with_reducible rfl)
      try simp only [Act.put, List.setIfInBounds_toArray, List.set_cons_zero, List.set_cons_succ]
      refine takeL (i := 5) (v := ?_) rfl (by kernel_rfl) (by kernel_rfl) (by kernel_rfl) (fun _ _ _ h => h) (Or.inl ⟨by rfl, ?_⟩) hHeld ?_
      rotate_left
      focus (intro wq hSw; have r5 := hcv wq; clear hSw; go_simp; try with_reducible rfl)
      try simp only [Act.put, List.setIfInBounds_toArray, List.set_cons_zero, List.set_cons_succ]
      refine takeL (i := 6) (v := ?_) rfl (by kernel_rfl) (by kernel_rfl) (by kernel_rfl) (fun _ _ _ h => h) (Or.inl ⟨by rfl, ?_⟩) hHeld ?_
      rotate_left
      focus (intro wq hSw; clear hSw; go_simp; try with_reducible rfl)
      try simp only [Act.put, List.setIfInBounds_toArray, List.set_cons_zero, List.set_cons_succ]
      refine takeL (i := 7) (v := ?_) rfl (by kernel_rfl) (by kernel_rfl) (by kernel_rfl) (fun _ _ _ h => h) (Or.inl ⟨by rfl, ?_⟩) hHeld ?_
      rotate_left
      focus (intro wq hSw; have hRun := hsl wq; clear hSw; go_simp; try with_reducible rfl)
      try simp only [Act.put, List.setIfInBounds_toArray, List.set_cons_zero, List.set_cons_succ]
      refine takeL (i := 8) (v := ?_) rfl (by kernel_rfl) (by kernel_rfl) (by kernel_rfl) (fun _ _ _ h => h) (Or.inl ⟨by rfl, ?_⟩) hHeld ?_
      rotate_left
      focus (intro wq hSw; clear hSw; go_simp; try with_reducible rfl)
      try simp only [Act.put, List.setIfInBounds_toArray, List.set_cons_zero, List.set_cons_succ]
      refine takeL (i := 9) (v := ?_) rfl (by kernel_rfl) (by kernel_rfl) (by kernel_rfl) (fun _ _ _ h => h) (Or.inl ⟨by rfl, ?_⟩) hHeld ?_
      rotate_left
      focus (intro wq hSw; clear hSw; go_simp; try with_reducible rfl)
      try simp only [Act.put, List.setIfInBounds_toArray, List.set_cons_zero, List.set_cons_succ]
      refine wpAnyH_ready (rs := [10]) (by kernel_rfl) (by simp) ?_
      refine consL rfl (fun K hK => ?_) AllReadyH.nil
      go_simp
      refine hK.out _ _ (hHeld.trans turn_put (fun y hy => .inl hy)) (fun hHeld => ?_)
      clear hK K
      try simp only [Act.put, List.setIfInBounds_toArray, List.set_cons_zero, List.set_cons_succ]
      refine takeL (i := 11) (v := ?_) rfl (by kernel_rfl) (by kernel_rfl) (by kernel_rfl) (fun _ _ _ h => h) (Or.inl ⟨by rfl, ?_⟩) hHeld ?_
      rotate_left
      focus (intro wq hSw; clear hSw; go_simp; try with_reducible rfl)
      try simp only [Act.put, List.setIfInBounds_toArray, List.set_cons_zero, List.set_cons_succ]
      refine takeL (i := 12) (v := ?_) rfl (by kernel_rfl) (by kernel_rfl) (by kernel_rfl) (fun _ _ _ h => h) (Or.inl ⟨by rfl, ?_⟩) hHeld ?_
      rotate_left
      focus (intro wq hSw; clear hSw; go_simp; try with_reducible rfl)
      try simp only [Act.put, List.setIfInBounds_toArray, List.set_cons_zero, List.set_cons_succ]
      refine wpAnyH_ready (rs := [13]) (by kernel_rfl) (by simp) ?_
      refine consL rfl (fun K hK => ?_) AllReadyH.nil
      go_simp
      refine hK.out _ _ (hHeld.trans turn_put (fun y hy => .inl hy)) (fun hHeld => ?_)
      clear hK K
      try simp only [Act.put, List.setIfInBounds_toArray, List.set_cons_zero, List.set_cons_succ]
      refine wpAnyH_done (by kernel_rfl) ?_ _
      refine NoPanic.normal ?_
      simp only [Exit.then]
      try go_at_K
      go_wp2_with fail
      go_ret
      rw [← hwd]
      unfold BegC
      rw [HR.out.2.2.2]
      refine ⟨HH.out.1, .inr ⟨rfl, HH.out.2.2.2.2.2.2, g, cm - 1, ⟨⟨⟨rfl, rfl, rfl, rfl, by have := HR.out.1; show 16 ≤ cm - 1; omega, by have := HR.out.2.1; show cm - 1 ≤ maxLen; omega, by have := HR.out.2.2.1; show n ≤ 1000; omega, fun e => HH.out.2.2.2.2.1.1 e.symm, fun e => HH.out.2.2.2.2.1.2 e.symm, rfl⟩, HH.out.2.1, HH.out.2.2.2.1, HH.out.2.2.1, Rd.nil _, fun ad e => by cases e⟩, OwnO.nil _ _, Rd.nil _, fun e => absurd e (show ¬ (4 = 5) by decide), Rd.nil _, Own.nil _ _, fun ad h => ?_, fun ad h => ?_, ⟨Apart.none_l _, Apart.none_l _, Apart.none_l _, Apart.none_l _⟩, ⟨Apart.none_l _, Apart.none_l _, Apart.none_l _⟩⟩, _, rfl, rfl⟩⟩
      · rcases h with h | h | h | h <;> cases h
      · rcases h with h | h <;> cases h
    · have hno : ¬ parOk 4 p := fun e => hr (hpo.1 e).2
      by_cases h1 : z.toNat < 1
      · have g1 : ltN z 1 = true := decide_eq_true (by omega)
        have HN := Lib.hid hno
        clear h hc hp hpo hno hr hml hz hzd
        go_enter Try.func39, Try.ntmps39
        go_wp2_with fail
        go_ret
        exact ⟨Turn.refl _ _, .inl ⟨rfl, HN.out⟩⟩
      · have g1 : ltN z 1 = false := decide_eq_false (by omega)
        have g2 : gtN z 128 = true := decide_eq_true (by omega)
        have HN := Lib.hid hno
        clear h hc hp hpo hno hr hml hz hzd
        go_enter Try.func39, Try.ntmps39
        go_wp2_with fail
        go_ret
        exact ⟨Turn.refl _ _, .inl ⟨rfl, HN.out⟩⟩
  · have hno : ¬ parOk 4 p := fun e => h17 (by rw [hml]; exact (hpo.1 e).1)
    have hb : ((m : Int) != 17) = true := by simp; omega
    have hb1 : ¬ (m : Int) = 17 := by omega
    have HN := Lib.hid hno
    clear h hc hp hpo hno h17 hml
    go_enter Try.func39, Try.ntmps39
    go_wp2_with fail
    go_ret
    exact ⟨Turn.refl _ _, .inl ⟨rfl, HN.out⟩⟩
end Go.Proofs.Ytiocmebcbhbcmaa
