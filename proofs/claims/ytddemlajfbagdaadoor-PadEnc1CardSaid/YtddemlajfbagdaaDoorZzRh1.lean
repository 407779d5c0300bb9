/-
  Contract of hashes.Of: parts are written, one behind the other, and summed.
  Contract of hashes.newKeyed: a key's two states.
  Contract of keyed.of: parts are written behind the key's inner state, its sum behind the outer one.
  Contracts of hashes.HMAC and number.
  Contracts of the reference's helpers: words, pad, Join.
-/
import Derived.Test.YtddemlajfbagdaaDoorSum
import Derived.Test.YtddemlajfbagdaaDoorZzApp2
import Derived.Deep.DeepCutAuto
import Derived.Deep.RegionHeld3
import Derived.Deep.DrawnRows
namespace Go.Proofs.YtddemlajfbagdaaDoor
open Go.RowKit

theorem rest_len (kind : Int) (l : List UInt8) (hk : 1 ≤ kind ∧ kind ≤ 5) : (rest kind l).length < 128 := by
  unfold rest
  have hb : 64 ≤ bl kind ∧ bl kind ≤ 128 := by rcases bl_cases kind hk with ⟨_, h⟩ | ⟨_, h⟩ <;> omega
  rw [List.length_drop]
  have h1 := Nat.mod_lt l.length (y := bl kind) (by omega)
  have h2 := Nat.div_add_mod l.length (bl kind)
  rw [Nat.mul_comm] at h2
  omega
theorem sum_any (d : Nat) (kind : Int) (hs : List UInt64) (wait : List UInt8) (n : UInt64) (wv : Value) (w : World) (h : HashAt w d kind hs wait n wv) (hl : wait.length ≤ 70368744177664) (hK : KAt w) :
    Calls Tryd.prog 51 #[.pointer (some ⟨d, 0, none⟩)] w fun e w' => ∃ g c, e = .returned (.slice (some ⟨g, 0, none⟩) (sumOf kind hs wait n).length c) ∧
      Own w' w.heap.size (.slice (some ⟨g, 0, none⟩) (sumOf kind hs wait n).length c) (sumOf kind hs wait n) ∧ Below w.heap.size w w' := by
  rcases bl_cases kind h.kindOk with ⟨hb, _⟩ | ⟨hb, _⟩
  · exact sum64 d kind hs wait n wv w h hl hK hb
  · exact sum128 d kind hs wait n wv w h hl hK hb

/-- A state, on the plain side. -/
structure HSt where
  (hs : List UInt64) (wait : List UInt8) (n : UInt64)
def HSt.start (kind : Int) : HSt := ⟨startW kind, [], 0⟩
def HSt.write (kind : Int) (s : HSt) (l : List UInt8) : HSt := ⟨absorb kind s.hs (s.wait ++ l), rest kind (s.wait ++ l), s.n + UInt64.ofNat l.length⟩
def HSt.sum (kind : Int) (s : HSt) : List UInt8 := sumOf kind s.hs s.wait s.n
def writes (kind : Int) (ps : List (List UInt8)) : HSt := ps.foldl (HSt.write kind) (HSt.start kind)
theorem writes_snoc (kind : Int) (ps : List (List UInt8)) (p : List UInt8) : writes kind (ps ++ [p]) = (writes kind ps).write kind p := by simp [writes]
theorem writes_wait (kind : Int) (hk : 1 ≤ kind ∧ kind ≤ 5) (ps : List (List UInt8)) : (writes kind ps).wait.length < 128 := by
  rcases List.eq_nil_or_concat ps with rfl | ⟨q, p, rfl⟩
  · simp [writes, HSt.start]
  · rw [List.concat_eq_append, writes_snoc]; exact rest_len kind _ hk

/-- Slices of bytes in a row of memory. -/
def PartsAt (w : World) (A : Option Addr) (m c : Nat) (ls : List (List UInt8)) : Prop :=
  m = ls.length ∧ m ≤ c ∧ c ≤ maxLen ∧ (0 < m → ∃ b off, A = some ⟨b, off, none⟩ ∧ b < w.heap.size ∧
    ∀ (i : Nat) (l : List UInt8), ls[i]? = some l → ∃ A' m' c', w.cell? ⟨b, off + i, none⟩ = some (.slice A' m' c') ∧ Rd w A' m' c' l)

theorem of_none (kind : Int) (hk : kind < 1 ∨ 5 < kind) (A : Option Addr) (m c : Nat) (ls : List (List UInt8)) (w : World) (hp : PartsAt w A m c ls) :
    Calls Tryd.prog 34 #[.int .i64 kind, .slice A m c] w fun e w' => e = .returned (.slice none 0 0) ∧ Below w.heap.size w w' := by
  have HN := Lib.hid (new_none kind w hk)
  have hm := hp.1
  have hmc := hp.2.1
  have hcm := hp.2.2.1
  unfold maxLen at hcm
  have HP := Lib.hid hp
  have Hm := Lib.hid hm
  clear hp hk hm
  go_enter Tryd.func34, Tryd.ntmps34
  go_wp2_with (go_at_call 49; refine HN.out.mono ?_; rintro e w1 ⟨rfl, rfl⟩)
  go_loopw [12] (fun i wr => ∃ k : Nat, k ≤ m ∧ i = .int .i64 k ∧ Below w.heap.size w wr) (fun i _ => m - (intOf i).toNat)
  case atStart => exact ⟨0, by omega, rfl, Below.refl _ _⟩
  case round =>
    obtain ⟨k, hk, rfl, hB⟩ := hrel
    rcases Nat.lt_or_ge k m with hlt | hge
    · obtain ⟨b, off, rfl, hbl, hcell⟩ := HP.out.2.2.2 (by omega)
      obtain ⟨l, hl⟩ : ∃ l, ls[k]? = some l := ⟨_, List.getElem?_eq_getElem (by rw [← Hm.out]; exact hlt)⟩
      obtain ⟨A', m', c', hc, hr⟩ := hcell k l hl
      have hc' := (hB.cell (p := ⟨b, off + k, none⟩) hbl).trans hc
      have hki : (k : Int) < m := by omega
      have hk0 : (0 : Int) ≤ k := by omega
      have Hr := Lib.hid hB
      clear hB hcell hl hc hr hlt hk
      go_wp2_with (go_at_call 50; refine (write_nil _ _ _ _).mono ?_; rintro e w2 ⟨rfl, hb⟩)
      go_roundw
      case rel => exact ⟨k + 1, by omega, by go_num, Hr.out.trans (hb.mono Hr.out.size)⟩
      case measure => simp [intOf]; omega
    · obtain rfl : k = m := by omega
      have hq : ¬ ((k : Int) < k) := by omega
      have Hr := Lib.hid hB
      clear hB hk hge
      go_wp2_with (go_at_call 51; refine (sum_nil _).mono ?_; rintro e w2 ⟨rfl, hb⟩)
      go_ret
      exact ⟨rfl, Hr.out.trans (hb.mono Hr.out.size)⟩

set_option maxHeartbeats 1000000 in
theorem of_any (kind : Int) (hk : 1 ≤ kind ∧ kind ≤ 5) (A : Option Addr) (m c : Nat) (ls : List (List UInt8)) (w : World) (hp : PartsAt w A m c ls) (hl : ∀ l ∈ ls, l.length ≤ 140737488355000) (hK : KAt w) :
    Calls Tryd.prog 34 #[.int .i64 kind, .slice A m c] w fun e w' => ∃ g c, e = .returned (.slice (some ⟨g, 0, none⟩) ((writes kind ls).sum kind).length c) ∧
      Own w' w.heap.size (.slice (some ⟨g, 0, none⟩) ((writes kind ls).sum kind).length c) ((writes kind ls).sum kind) ∧ Below w.heap.size w w' := by
  have HN := Lib.hid (new_any kind w hk hK)
  have HP := Lib.hid (And.intro hp (And.intro hl hK))
  have hm := hp.1
  have hmc := hp.2.1
  have hcm := hp.2.2.1
  unfold maxLen at hcm
  have Hk := Lib.hid hk
  have Hm := Lib.hid hm
  clear hp hl hK hk hm
  go_enter Tryd.func34, Tryd.ntmps34
  go_wp2_with (go_at_call 49; refine HN.out.mono ?_; rintro e w1 ⟨d, rfl, hd, hA, hb⟩)
  have hb0 : (0 : Nat) ≤ m := Nat.zero_le _
  have HA := Lib.hid (And.intro hd (And.intro hA hb))
  clear hd hA hb HN
  go_loopw [12] (fun i wr => ∃ (k : Nat) (wv : Value), k ≤ m ∧ i = .int .i64 k ∧ HashAt wr d kind (writes kind (ls.take k)).hs (writes kind (ls.take k)).wait (writes kind (ls.take k)).n wv ∧ (∀ g, wv.ownBlock = some g → w.heap.size ≤ g) ∧ Below w.heap.size w wr) (fun i _ => m - (intOf i).toNat)
  case atStart => exact ⟨0, _, by omega, rfl, HA.out.2.1, fun g h => by simp [Value.ownBlock] at h, HA.out.2.2⟩
  case round =>
    obtain ⟨k, wv, hk, rfl, hA, hwv, hB⟩ := hrel
    have hKr := HP.out.2.2.below hB
    have hdl : w.heap.size ≤ d := HA.out.1
    have hwt := writes_wait kind Hk.out (ls.take k)
    rcases Nat.lt_or_ge k m with hlt | hge
    · obtain ⟨b, off, rfl, hbl, hcell⟩ := HP.out.1.2.2.2 (by omega)
      obtain ⟨l, hl⟩ : ∃ l, ls[k]? = some l := ⟨_, List.getElem?_eq_getElem (by rw [← Hm.out]; exact hlt)⟩
      obtain ⟨A', m', c', hc, hr⟩ := hcell k l hl
      have hc' := (hB.cell (p := ⟨b, off + k, none⟩) hbl).trans hc
      have hll := HP.out.2.1 l (List.mem_of_getElem? hl)
      have HW := Lib.hid (write_any d kind _ _ _ wv A' m' c' l wr hA (hr.below hB) (by omega) hKr (fun ad had => by
        have h1 := hr.lt ad had
        exact ⟨by omega, fun h => by have := hwv _ h; omega⟩))
      have hsc := Lib.hid (show writes kind (ls.take (k + 1)) = (writes kind (ls.take k)).write kind l by rw [List.take_add_one, hl]; exact writes_snoc _ _ _)
      have hki : (k : Int) < m := by omega
      have hk0 : (0 : Int) ≤ k := by omega
      have Hr := Lib.hid (And.intro hwv (And.intro hB hdl))
      clear hA hwv hB hKr hwt hcell hl hc hr hll hlt hk hdl
      go_wp2_with (go_at_call 50; refine HW.out.mono ?_; rintro e w2 ⟨rfl, ⟨wv', hA', hwv'⟩, hT'⟩)
      go_roundw
      case rel =>
        obtain ⟨hwv, hB, hdl⟩ := Hr.out
        refine ⟨k + 1, wv', by omega, by go_num, by rw [hsc.out]; exact hA', fun g hg => Nat.le_trans hB.size (hwv' g hg), below_turn hB hT' ?_ hB.size⟩
        intro t ht
        rcases List.mem_cons.1 ht with rfl | ht
        · exact hdl
        · exact hwv t (by simpa using ht)
      case measure => simp [intOf]; omega
    · obtain rfl : k = m := by omega
      have hq : ¬ ((k : Int) < k) := by omega
      rw [List.take_of_length_le (by rw [← Hm.out]; omega)] at hA hwt
      have HS := Lib.hid (sum_any d kind _ _ _ wv wr hA (by omega) hKr)
      have Hr := Lib.hid hB
      clear hA hwv hB hKr hwt hk hge hdl
      go_wp2_with (go_at_call 51; refine HS.out.mono ?_; rintro e w2 ⟨g, c', rfl, hO, hb⟩)
      go_ret
      exact ⟨g, c', rfl, hO.mono Hr.out.size, Hr.out.trans (hb.mono Hr.out.size)⟩
end Go.Proofs.YtddemlajfbagdaaDoor
namespace Go.Proofs.YtddemlajfbagdaaDoor
open Go.RowKit

/-- The key, or its hash. -/
def hkey (kind : Int) (key : List UInt8) : List UInt8 := if hblock kind < key.length then (writes kind [key]).sum kind else key
def padTo (B : Nat) (l : List UInt8) : List UInt8 := l ++ zs (B - l.length)
theorem sumOf_len (kind : Int) (hs : List UInt64) (wait : List UInt8) (n : UInt64) (hk : 1 ≤ kind ∧ kind ≤ 5) (h : hs.length = 8) : (sumOf kind hs wait n).length = (hsize kind).toNat := by
  unfold sumOf
  have h8 : (absorb kind hs (wait ++ padB (bl kind) wait.length n)).length = 8 := hsTo_len _ _ _ _ _ h
  generalize absorb kind hs (wait ++ padB (bl kind) wait.length n) = sl at *
  have hw : (wordsOf kind sl).length = if bl kind = 64 then 32 else 64 := by
    unfold wordsOf
    split
    · rw [flat_len _ _ 4 (fun _ => rfl), h8]
    · rw [flat_len _ _ 8 (fun _ => rfl), h8]
  rw [List.length_take, hw]
  have hcase : kind = 1 ∨ kind = 2 ∨ kind = 3 ∨ kind = 4 ∨ kind = 5 := by omega
  rcases hcase with rfl | rfl | rfl | rfl | rfl <;> simp [hsize, bl, hblock]
theorem writes_len (kind : Int) (ps : List (List UInt8)) : (writes kind ps).hs.length = 8 := by
  have key : ∀ (ps : List (List UInt8)) (s : HSt), s.hs.length = 8 → (ps.foldl (HSt.write kind) s).hs.length = 8 := by
    intro ps
    induction ps with
    | nil => intro s h; exact h
    | cons p ps ih => intro s h; exact ih _ (hsTo_len _ _ _ _ _ h)
  exact key ps _ (startW_len kind)
theorem hkey_len (kind : Int) (key : List UInt8) (hk : 1 ≤ kind ∧ kind ≤ 5) : (hkey kind key).length ≤ bl kind := by
  unfold hkey
  split
  · unfold HSt.sum
    rw [sumOf_len kind _ _ _ hk (writes_len kind _)]
    have hcase : kind = 1 ∨ kind = 2 ∨ kind = 3 ∨ kind = 4 ∨ kind = 5 := by omega
    rcases hcase with rfl | rfl | rfl | rfl | rfl <;> simp [hsize, bl, hblock]
  · unfold bl; omega

theorem rd_one {w : World} {g : Nat} {A : Option Addr} {m c : Nat} {l : List UInt8} {t : TypeId} (hb : Blk w g t #[.slice A m c]) (hr : Rd w A m c l) : PartsAt w (some ⟨g, 0, none⟩) 1 1 [l] := by
  refine ⟨rfl, Nat.le_refl _, by unfold maxLen; omega, fun _ => ⟨g, 0, rfl, hb.lt, fun i l' hl => ?_⟩⟩
  cases i with
  | zero => cases hl; exact ⟨A, m, c, hb.cell 0, hr⟩
  | succ i => cases hl

theorem turn_some {w w' : World} {g : Nat} (h : w.grownBy w' (some g)) : Turn [g] w w' :=
  ⟨h.os, h.tape, h.output, h.size, fun k hk hn => h.block k hk (fun e => hn (by cases e; simp))⟩
/-- Two new rows of zeros. -/
theorem two_zeros (w : World) (n : Nat) (hn : n ≤ maxLen) :
    Own ((w.alloc (.cells (madeCells #[.int .u8 0] n) 5)).alloc (.cells (madeCells #[.int .u8 0] n) 5)) w.heap.size (.slice (some ⟨w.heap.size, 0, none⟩) n n) (zs n) ∧
    Own ((w.alloc (.cells (madeCells #[.int .u8 0] n) 5)).alloc (.cells (madeCells #[.int .u8 0] n) 5)) w.heap.size (.slice (some ⟨w.heap.size + 1, 0, none⟩) n n) (zs n) ∧
    Below w.heap.size w ((w.alloc (.cells (madeCells #[.int .u8 0] n) 5)).alloc (.cells (madeCells #[.int .u8 0] n) 5)) := by
  refine ⟨(Own.made w n hn).below ((Below.refl _ _).alloc (Nat.le_refl _) _), ?_, ((Below.refl _ _).alloc (Nat.le_refl _) _).alloc (by simp) _⟩
  have := (Own.made (w.alloc (.cells (madeCells #[.int .u8 0] n) 5)) n hn).mono (base' := w.heap.size) (by simp)
  simpa using this
/-- A key's two states in memory, all of it made behind base. -/
structure KeyAt (base : Nat) (w : World) (d1 d2 : Nat) (wv1 wv2 : Value) (kind : Int) (pd : List UInt8) : Prop where
  one : HashAt w d1 kind (writes kind [pd.map (· ^^^ 54)]).hs (writes kind [pd.map (· ^^^ 54)]).wait (writes kind [pd.map (· ^^^ 54)]).n wv1
  two : HashAt w d2 kind (writes kind [pd.map (· ^^^ 92)]).hs (writes kind [pd.map (· ^^^ 92)]).wait (writes kind [pd.map (· ^^^ 92)]).n wv2
  b1 : base ≤ d1
  b2 : base ≤ d2
  f1 : ∀ g, wv1.ownBlock = some g → base ≤ g
  f2 : ∀ g, wv2.ownBlock = some g → base ≤ g
end Go.Proofs.YtddemlajfbagdaaDoor
namespace Go.Proofs.YtddemlajfbagdaaDoor
open Go.RowKit

/-- The code of parts by a padded key. -/
def mac (kind : Int) (pd : List UInt8) (ls : List (List UInt8)) : List UInt8 :=
  (writes kind [pd.map (· ^^^ 92), (writes kind (pd.map (· ^^^ 54) :: ls)).sum kind]).sum kind
theorem Blk.two {w : World} {g : Nat} {t : TypeId} {a b : Value} (h : Blk w g t #[a, b]) : w.cell? ⟨g, 0, none⟩ = some a ∧ w.cell? ⟨g, 1, none⟩ = some b := ⟨h.cell 0, h.cell 1⟩
theorem below2 {w w0 w1 w2 : World} {b : Nat} (h : Below b w w0) (k : Below w0.heap.size w1 w2) (hs : b ≤ w0.heap.size := by exact Nat.le_refl _) (e : w1.os = w0.os ∧ w1.tape = w0.tape ∧ w1.output = w0.output ∧ w1.heap = w0.heap := by exact ⟨rfl, rfl, rfl, rfl⟩) : Below b w w2 :=
  ⟨k.os.trans (e.1.trans h.os), k.tape.trans (e.2.1.trans h.tape), k.output.trans (e.2.2.1.trans h.output), by have := k.size; have := h.size; rw [e.2.2.2] at *; omega, fun i hi => by rw [k.block i (by omega), e.2.2.2, h.block i hi]⟩
/-- A sum just made is written into a state made before. -/
theorem outer_any (d : Nat) (kind : Int) (hs : List UInt64) (wait : List UInt8) (n : UInt64) (wv : Value) (g c' : Nat) (l : List UInt8) (wr w2 : World) (h : HashAt wr d kind hs wait n wv) (hb : Below wr.heap.size wr w2)
    (hO : Own w2 wr.heap.size (.slice (some ⟨g, 0, none⟩) l.length c') l) (hlen : wait.length + l.length ≤ 140737488355328) (hK : KAt wr) :
    Calls Tryd.prog 50 #[.pointer (some ⟨d, 0, none⟩), .slice (some ⟨g, 0, none⟩) l.length c'] w2 fun e w' => e = .returned (.tuple #[]) ∧
      (∃ wv', HashAt w' d kind (absorb kind hs (wait ++ l)) (rest kind (wait ++ l)) (n + UInt64.ofNat l.length) wv' ∧ (∀ q, wv'.ownBlock = some q → w2.heap.size ≤ q)) ∧ Turn (d :: wv.ownBlock.toList) w2 w' := by
  obtain ⟨A, c, he, hr, hA⟩ := hO.shape
  cases he
  refine write_any d kind hs wait n wv _ _ _ l w2 (h.below hb) hr hlen (hK.below hb) (fun ad had => ?_)
  have h1 := hA ad had
  have h2 := h.blk.lt
  exact ⟨by omega, fun hq => by have := (h.own.lt hq).2; omega⟩
theorem kat_notin {w : World} {d : Nat} {kind : Int} {hs : List UInt64} {wait : List UInt8} {n : UInt64} {wv : Value} (h : HashAt w d kind hs wait n wv) : 1 ∉ d :: wv.ownBlock.toList := by
  intro hm
  rcases List.mem_cons.1 hm with e | e
  · exact h.ne0 e.symm
  · have := (h.own.lt (by simpa using e)).1
    omega
/-- A state made by a call. -/
structure Made (w w' : World) (d : Nat) (kind : Int) (s : HSt) (wv : Value) : Prop where
  lt : w.heap.size ≤ d
  at_ : HashAt w' d kind s.hs s.wait s.n wv
  fresh : ∀ g, wv.ownBlock = some g → w.heap.size ≤ g
  below : Below w.heap.size w w'
end Go.Proofs.YtddemlajfbagdaaDoor
namespace Go.Proofs.YtddemlajfbagdaaDoor
open Go.RowKit

/-- The code of parts by a key. -/
def hmac (kind : Int) (key : List UInt8) (ls : List (List UInt8)) : List UInt8 := mac kind (padTo (bl kind) (hkey kind key)) ls
theorem hsize_ne (kind : Int) (hk : 1 ≤ kind ∧ kind ≤ 5) : (hsize kind == 0) = false := by
  have hcase : kind = 1 ∨ kind = 2 ∨ kind = 3 ∨ kind = 4 ∨ kind = 5 := by omega
  rcases hcase with rfl | rfl | rfl | rfl | rfl <;> decide
theorem hsize_none (kind : Int) (hk : kind < 1 ∨ 5 < kind) : hsize kind = 0 := by simp [hsize]; omega
theorem PartsAt.below {w w' : World} {A : Option Addr} {m c : Nat} {ls : List (List UInt8)} (h : PartsAt w A m c ls) (hb : Below w.heap.size w w') : PartsAt w' A m c ls := by
  obtain ⟨h1, h2, h3, h4⟩ := h
  refine ⟨h1, h2, h3, fun hm => ?_⟩
  obtain ⟨b, off, rfl, hlt, hc⟩ := h4 hm
  refine ⟨b, off, rfl, Nat.lt_of_lt_of_le hlt hb.size, fun i l hl => ?_⟩
  obtain ⟨A', m', c', hcell, hr⟩ := hc i l hl
  exact ⟨A', m', c', (hb.cell (p := ⟨b, off + i, none⟩) hlt).trans hcell, hr.below hb⟩
theorem wrapU32 (n : Int) : Value.int .u32 (IntKind.u32.wrap n) = U32 (UInt32.ofNat (IntKind.u32.wrap n).toNat) := by
  symm
  apply U32_eq
  rw [wrap_u32]
  have h1 : 0 ≤ n % 4294967296 := Int.emod_nonneg _ (by decide)
  have h2 : n % 4294967296 < 4294967296 := Int.emod_lt_of_pos _ (by decide)
  rw [UInt32.toNat_ofNat', Nat.mod_eq_of_lt (by omega)]
  omega
/-- A number in four bytes. -/
def num4 (n : Int) : List UInt8 := bytes32 (UInt32.ofNat (n % 4294967296).toNat)
theorem number_any (n : Int) (w : World) : Calls Tryd.prog 72 #[.int .i64 n] w fun e w' => ∃ g c', e = .returned (.slice (some ⟨g, 0, none⟩) 4 c') ∧ Own w' w.heap.size (.slice (some ⟨g, 0, none⟩) 4 c') (num4 n) ∧ Below w.heap.size w w' := by
  have HA := Lib.hid (append32_any (.slice none 0 0) (UInt32.ofNat (n % 4294967296).toNat) [] w w.heap.size (World.ownsRow_nil _ _ _ _) (Nat.le_refl _) (by simp))
  go_enter Tryd.func72, Tryd.ntmps72
  have e := wrapU32 n
  rw [wrap_u32] at e
  go_wp2_with (go_at_call 70; refine HA.out.mono ?_; rintro e2 w' ⟨v', rfl, hO, hT, hne⟩; obtain ⟨g, c', rfl⟩ := hO.form hne)
  go_ret
  exact ⟨g, c', rfl, hO, Turn.below (by simpa [Value.ownBlock] using hT)⟩
end Go.Proofs.YtddemlajfbagdaaDoor
namespace Go.Proofs.YtddemlajfbagdaaDoor
open Go.RowKit
attribute [local go_sem ↓] Go.wp_at_zero Go.wp_at_succ

/-- Words of 32 bits lie in block g. -/
def W32 (w : World) (g : Nat) (l : List UInt32) : Prop := g < w.heap.size ∧ ∀ k x, l[k]? = some x → w.cell? ⟨g, k, none⟩ = some (U32 x)
theorem W32.below {w w' : World} {B g : Nat} {l : List UInt32} (h : W32 w g l) (hg : g < B) (hb : Below B w w') : W32 w' g l :=
  ⟨Nat.lt_of_lt_of_le h.1 hb.size, fun k x hx => (hb.cell (p := ⟨g, k, none⟩) hg).trans (h.2 k x hx)⟩
set_option maxHeartbeats 1000000 in
theorem words_any (g n c : Nat) (l : List UInt32) (w : World) (h : W32 w g l) (hn : n = l.length) (h8 : n ≤ 1000) :
    Calls Tryd.prog 76 #[.slice (some ⟨g, 0, none⟩) n c] w fun e w' => ∃ v, e = .returned v ∧ Own w' w.heap.size v (l.flatMap bytes32) ∧ Below w.heap.size w w' := by
  have HH := Lib.hid (And.intro h hn)
  clear h hn
  go_enter Tryd.func76, Tryd.ntmps76
  go_wp2
  go_loopw [3, 4] (fun v i wr => ∃ k : Nat, k ≤ n ∧ i = .int .i64 k ∧ Own wr w.heap.size v ((l.take k).flatMap bytes32) ∧ Below w.heap.size w wr) (fun _ i _ => n - (intOf i).toNat)
  case atStart => exact ⟨0, by omega, rfl, World.ownsRow_nil _ _ _ _, Below.refl _ _⟩
  case round =>
    obtain ⟨k, hk, rfl, hO, hB⟩ := hrel
    rcases Nat.lt_or_ge k n with hlt | hge
    · obtain ⟨x, hx⟩ : ∃ x, l[k]? = some x := ⟨_, List.getElem?_eq_getElem (by rw [← HH.out.2]; exact hlt)⟩
      have hc := (HH.out.1.below HH.out.1.1 hB).2 k x hx
      have hki : (k : Int) < n := by omega
      have hk0 : (0 : Int) ≤ k := by omega
      have hlen : ((l.take k).flatMap bytes32).length = k * 4 := by
        rw [flat_len _ _ 4 (fun _ => rfl), List.length_take, ← HH.out.2]; congr 1; omega
      have HL := Lib.hid (And.intro hB (And.intro hO (And.intro hx (And.intro hlen hlt))))
      have hsz := hB.size
      clear hB hO hx hlen hlt hk
      go_wp2_with fail
      go_region_held3 (fun w' => w'.cell? ⟨g, k, none⟩ = some (U32 x)) (first | go_keep | exact hG.kept HH.out.1.1 (by assumption)) ((refine step_app_lit _ (.tmp 35) w.heap.size u3 ((l.take k).flatMap bytes32) HL.out.2.1 hsz (bytes32 x) (by rw [HL.out.2.2.2.1]; omega) (by simp [bytes32]) rfl rfl rfl rfl rfl rfl ?_; intro A2 n2 c2 w2 hn2 hG))
      go_wp2
      go_roundw
      case rel =>
        obtain ⟨hB, hO, hx, hlen, hlt⟩ := HL.out
        refine ⟨k + 1, by omega, by go_num, ?_, (hB.alloc hB.size _).drew.trans hG.below⟩
        rw [List.take_add_one, hx]; simpa using hG.own
      case measure => simp [intOf]; omega
    · obtain rfl : k = n := by omega
      have hq : ¬ ((k : Int) < k) := by omega
      have Hr := Lib.hid (And.intro hO hB)
      clear hO hB hk hge
      go_wp2
      go_ret
      refine ⟨_, rfl, ?_, Hr.out.2⟩
      have := Hr.out.1
      rwa [List.take_of_length_le (by rw [← HH.out.2]; omega)] at this
end Go.Proofs.YtddemlajfbagdaaDoor
