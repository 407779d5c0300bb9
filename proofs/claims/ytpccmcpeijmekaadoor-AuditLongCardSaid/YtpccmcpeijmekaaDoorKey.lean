/-
  Contract of hashes.newKeyed: a key's two states.
  Contract of keyed.of: parts are written behind the key's inner state, its sum behind the outer one.
  Contracts of hashes.HMAC and number.
-/
import Derived.Test.YtpccmcpeijmekaaDoorOf
import Derived.Test.YtpccmcpeijmekaaDoorApp2
import Derived.Deep.DeepCutAuto
namespace Go.Proofs.YtpccmcpeijmekaaDoor
open Go.RowKit

/-- The key, or its hash. -/
def hkey (kind : Int) (key : List UInt8) : List UInt8 := if hblock kind < key.length then (writes kind [key]).sum kind else key
def padTo (B : Nat) (l : List UInt8) : List UInt8 := l ++ zs (B - l.length)
theorem sumOf_len (kind : Int) (hs : List UInt64) (wait : List UInt8) (n : UInt64) (hk : 1 ≤ kind ∧ kind ≤ 5) (h : hs.length = 8) : (sumOf kind hs wait n).length = (hsize kind).toNat := by
  unfold sumOf
  have h8 : (absorb kind hs (wait ++ padB (bl kind) wait.length n)).length = 8 := hsTo_len _ _ _ _ _ h
  generalize absorb kind hs (wait ++ padB (bl kind) wait.length n) = sl at *
  have hw : (wordsOf kind sl).length = if bl kind = 64 then 32 else 64 := by
    unfold wordsOf
    split
    · rw [flat_len _ _ 4 (fun _ => rfl), h8]
    · rw [flat_len _ _ 8 (fun _ => rfl), h8]
  rw [List.length_take, hw]
  have hcase : kind = 1 ∨ kind = 2 ∨ kind = 3 ∨ kind = 4 ∨ kind = 5 := by omega
  rcases hcase with rfl | rfl | rfl | rfl | rfl <;> simp [hsize, bl, hblock]
theorem writes_len (kind : Int) (ps : List (List UInt8)) : (writes kind ps).hs.length = 8 := by
  have key : ∀ (ps : List (List UInt8)) (s : HSt), s.hs.length = 8 → (ps.foldl (HSt.write kind) s).hs.length = 8 := by
    intro ps
    induction ps with
    | nil => intro s h; exact h
    | cons p ps ih => intro s h; exact ih _ (hsTo_len _ _ _ _ _ h)
  exact key ps _ (startW_len kind)
theorem hkey_len (kind : Int) (key : List UInt8) (hk : 1 ≤ kind ∧ kind ≤ 5) : (hkey kind key).length ≤ bl kind := by
  unfold hkey
  split
  · unfold HSt.sum
    rw [sumOf_len kind _ _ _ hk (writes_len kind _)]
    have hcase : kind = 1 ∨ kind = 2 ∨ kind = 3 ∨ kind = 4 ∨ kind = 5 := by omega
    rcases hcase with rfl | rfl | rfl | rfl | rfl <;> simp [hsize, bl, hblock]
  · unfold bl; omega

theorem rd_one {w : World} {g : Nat} {A : Option Addr} {m c : Nat} {l : List UInt8} {t : TypeId} (hb : Blk w g t #[.slice A m c]) (hr : Rd w A m c l) : PartsAt w (some ⟨g, 0, none⟩) 1 1 [l] := by
  refine ⟨rfl, Nat.le_refl _, by unfold maxLen; omega, fun _ => ⟨g, 0, rfl, hb.lt, fun i l' hl => ?_⟩⟩
  cases i with
  | zero => cases hl; exact ⟨A, m, c, hb.cell 0, hr⟩
  | succ i => cases hl

theorem turn_some {w w' : World} {g : Nat} (h : w.grownBy w' (some g)) : Turn [g] w w' :=
  ⟨h.os, h.tape, h.output, h.size, fun k hk hn => h.block k hk (fun e => hn (by cases e; simp))⟩
/-- Two new rows of zeros. -/
theorem two_zeros (w : World) (n : Nat) (hn : n ≤ maxLen) :
    Own ((w.alloc (.cells (madeCells #[.int .u8 0] n) 5)).alloc (.cells (madeCells #[.int .u8 0] n) 5)) w.heap.size (.slice (some ⟨w.heap.size, 0, none⟩) n n) (zs n) ∧
    Own ((w.alloc (.cells (madeCells #[.int .u8 0] n) 5)).alloc (.cells (madeCells #[.int .u8 0] n) 5)) w.heap.size (.slice (some ⟨w.heap.size + 1, 0, none⟩) n n) (zs n) ∧
    Below w.heap.size w ((w.alloc (.cells (madeCells #[.int .u8 0] n) 5)).alloc (.cells (madeCells #[.int .u8 0] n) 5)) := by
  refine ⟨(Own.made w n hn).below ((Below.refl _ _).alloc (Nat.le_refl _) _), ?_, ((Below.refl _ _).alloc (Nat.le_refl _) _).alloc (by simp) _⟩
  have := (Own.made (w.alloc (.cells (madeCells #[.int .u8 0] n) 5)) n hn).mono (base' := w.heap.size) (by simp)
  simpa using this
/-- A key's two states in memory, all of it made behind base. -/
structure KeyAt (base : Nat) (w : World) (d1 d2 : Nat) (wv1 wv2 : Value) (kind : Int) (pd : List UInt8) : Prop where
  one : HashAt w d1 kind (writes kind [pd.map (· ^^^ 54)]).hs (writes kind [pd.map (· ^^^ 54)]).wait (writes kind [pd.map (· ^^^ 54)]).n wv1
  two : HashAt w d2 kind (writes kind [pd.map (· ^^^ 92)]).hs (writes kind [pd.map (· ^^^ 92)]).wait (writes kind [pd.map (· ^^^ 92)]).n wv2
  b1 : base ≤ d1
  b2 : base ≤ d2
  f1 : ∀ g, wv1.ownBlock = some g → base ≤ g
  f2 : ∀ g, wv2.ownBlock = some g → base ≤ g
end Go.Proofs.YtpccmcpeijmekaaDoor
namespace Go.Proofs.YtpccmcpeijmekaaDoor
open Go.RowKit

/-- The code of parts by a padded key. -/
def mac (kind : Int) (pd : List UInt8) (ls : List (List UInt8)) : List UInt8 :=
  (writes kind [pd.map (· ^^^ 92), (writes kind (pd.map (· ^^^ 54) :: ls)).sum kind]).sum kind
theorem Blk.two {w : World} {g : Nat} {t : TypeId} {a b : Value} (h : Blk w g t #[a, b]) : w.cell? ⟨g, 0, none⟩ = some a ∧ w.cell? ⟨g, 1, none⟩ = some b := ⟨h.cell 0, h.cell 1⟩
theorem below2 {w w0 w1 w2 : World} {b : Nat} (h : Below b w w0) (k : Below w0.heap.size w1 w2) (hs : b ≤ w0.heap.size := by exact Nat.le_refl _) (e : w1.os = w0.os ∧ w1.tape = w0.tape ∧ w1.output = w0.output ∧ w1.heap = w0.heap := by exact ⟨rfl, rfl, rfl, rfl⟩) : Below b w w2 :=
  ⟨k.os.trans (e.1.trans h.os), k.tape.trans (e.2.1.trans h.tape), k.output.trans (e.2.2.1.trans h.output), by have := k.size; have := h.size; rw [e.2.2.2] at *; omega, fun i hi => by rw [k.block i (by omega), e.2.2.2, h.block i hi]⟩
/-- A sum just made is written into a state made before. -/
theorem outer_any (d : Nat) (kind : Int) (hs : List UInt64) (wait : List UInt8) (n : UInt64) (wv : Value) (g c' : Nat) (l : List UInt8) (wr w2 : World) (h : HashAt wr d kind hs wait n wv) (hb : Below wr.heap.size wr w2)
    (hO : Own w2 wr.heap.size (.slice (some ⟨g, 0, none⟩) l.length c') l) (hlen : wait.length + l.length ≤ 140737488351232) (hK : KAt wr) :
    Calls Tryd.prog 35 #[.pointer (some ⟨d, 0, none⟩), .slice (some ⟨g, 0, none⟩) l.length c'] w2 fun e w' => e = .returned (.tuple #[]) ∧
      (∃ wv', HashAt w' d kind (absorb kind hs (wait ++ l)) (rest kind (wait ++ l)) (n + UInt64.ofNat l.length) wv' ∧ (∀ q, wv'.ownBlock = some q → w2.heap.size ≤ q)) ∧ Turn (d :: wv.ownBlock.toList) w2 w' := by
  obtain ⟨A, c, he, hr, hA⟩ := hO.shape
  cases he
  refine write_any d kind hs wait n wv _ _ _ l w2 (h.below hb) hr hlen (hK.below hb) (fun ad had => ?_)
  have h1 := hA ad had
  have h2 := h.blk.lt
  exact ⟨by omega, fun hq => by have := (h.own.lt hq).2; omega⟩
theorem kat_notin {w : World} {d : Nat} {kind : Int} {hs : List UInt64} {wait : List UInt8} {n : UInt64} {wv : Value} (h : HashAt w d kind hs wait n wv) : 0 ∉ d :: wv.ownBlock.toList := by
  intro hm
  rcases List.mem_cons.1 hm with e | e
  · exact h.ne0 e.symm
  · have := (h.own.lt (by simpa using e)).1
    omega
/-- A state made by a call. -/
structure Made (w w' : World) (d : Nat) (kind : Int) (s : HSt) (wv : Value) : Prop where
  lt : w.heap.size ≤ d
  at_ : HashAt w' d kind s.hs s.wait s.n wv
  fresh : ∀ g, wv.ownBlock = some g → w.heap.size ≤ g
  below : Below w.heap.size w w'
end Go.Proofs.YtpccmcpeijmekaaDoor
namespace Go.Proofs.YtpccmcpeijmekaaDoor
open Go.RowKit

/-- The code of parts by a key. -/
def hmac (kind : Int) (key : List UInt8) (ls : List (List UInt8)) : List UInt8 := mac kind (padTo (bl kind) (hkey kind key)) ls
theorem hsize_ne (kind : Int) (hk : 1 ≤ kind ∧ kind ≤ 5) : (hsize kind == 0) = false := by
  have hcase : kind = 1 ∨ kind = 2 ∨ kind = 3 ∨ kind = 4 ∨ kind = 5 := by omega
  rcases hcase with rfl | rfl | rfl | rfl | rfl <;> decide
theorem hsize_none (kind : Int) (hk : kind < 1 ∨ 5 < kind) : hsize kind = 0 := by simp [hsize]; omega
theorem PartsAt.below {w w' : World} {A : Option Addr} {m c : Nat} {ls : List (List UInt8)} (h : PartsAt w A m c ls) (hb : Below w.heap.size w w') : PartsAt w' A m c ls := by
  obtain ⟨h1, h2, h3, h4⟩ := h
  refine ⟨h1, h2, h3, fun hm => ?_⟩
  obtain ⟨b, off, rfl, hlt, hc⟩ := h4 hm
  refine ⟨b, off, rfl, Nat.lt_of_lt_of_le hlt hb.size, fun i l hl => ?_⟩
  obtain ⟨A', m', c', hcell, hr⟩ := hc i l hl
  exact ⟨A', m', c', (hb.cell (p := ⟨b, off + i, none⟩) hlt).trans hcell, hr.below hb⟩
theorem wrapU32 (n : Int) : Value.int .u32 (IntKind.u32.wrap n) = U32 (UInt32.ofNat (IntKind.u32.wrap n).toNat) := by
  symm
  apply U32_eq
  rw [wrap_u32]
  have h1 : 0 ≤ n % 4294967296 := Int.emod_nonneg _ (by decide)
  have h2 : n % 4294967296 < 4294967296 := Int.emod_lt_of_pos _ (by decide)
  rw [UInt32.toNat_ofNat', Nat.mod_eq_of_lt (by omega)]
  omega
/-- A number in four bytes. -/
def num4 (n : Int) : List UInt8 := bytes32 (UInt32.ofNat (n % 4294967296).toNat)
end Go.Proofs.YtpccmcpeijmekaaDoor
