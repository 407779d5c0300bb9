/-
  Contract of hashes.Of: parts are written, one behind the other, and summed.
-/
import Derived.Test.YtdgjjmaiibafhaaDoorSum
namespace Go.Proofs.YtdgjjmaiibafhaaDoor
open Go.RowKit

theorem rest_len (kind : Int) (l : List UInt8) (hk : 1 ≤ kind ∧ kind ≤ 5) : (rest kind l).length < 128 := by
  unfold rest
  have hb : 64 ≤ bl kind ∧ bl kind ≤ 128 := by rcases bl_cases kind hk with ⟨_, h⟩ | ⟨_, h⟩ <;> omega
  rw [List.length_drop]
  have h1 := Nat.mod_lt l.length (y := bl kind) (by omega)
  have h2 := Nat.div_add_mod l.length (bl kind)
  rw [Nat.mul_comm] at h2
  omega
theorem sum_any (d : Nat) (kind : Int) (hs : List UInt64) (wait : List UInt8) (n : UInt64) (wv : Value) (w : World) (h : HashAt w d kind hs wait n wv) (hl : wait.length ≤ 70368744177664) (hK : KAt w) :
    Calls Tryd.prog 57 #[.pointer (some ⟨d, 0, none⟩)] w fun e w' => ∃ g c, e = .returned (.slice (some ⟨g, 0, none⟩) (sumOf kind hs wait n).length c) ∧
      Own w' w.heap.size (.slice (some ⟨g, 0, none⟩) (sumOf kind hs wait n).length c) (sumOf kind hs wait n) ∧ Below w.heap.size w w' := by
  rcases bl_cases kind h.kindOk with ⟨hb, _⟩ | ⟨hb, _⟩
  · exact sum64 d kind hs wait n wv w h hl hK hb
  · exact sum128 d kind hs wait n wv w h hl hK hb

/-- A state, on the plain side. -/
structure HSt where
  (hs : List UInt64) (wait : List UInt8) (n : UInt64)
def HSt.start (kind : Int) : HSt := ⟨startW kind, [], 0⟩
def HSt.write (kind : Int) (s : HSt) (l : List UInt8) : HSt := ⟨absorb kind s.hs (s.wait ++ l), rest kind (s.wait ++ l), s.n + UInt64.ofNat l.length⟩
def HSt.sum (kind : Int) (s : HSt) : List UInt8 := sumOf kind s.hs s.wait s.n
def writes (kind : Int) (ps : List (List UInt8)) : HSt := ps.foldl (HSt.write kind) (HSt.start kind)
theorem writes_snoc (kind : Int) (ps : List (List UInt8)) (p : List UInt8) : writes kind (ps ++ [p]) = (writes kind ps).write kind p := by simp [writes]
theorem writes_wait (kind : Int) (hk : 1 ≤ kind ∧ kind ≤ 5) (ps : List (List UInt8)) : (writes kind ps).wait.length < 128 := by
  rcases List.eq_nil_or_concat ps with rfl | ⟨q, p, rfl⟩
  · simp [writes, HSt.start]
  · rw [List.concat_eq_append, writes_snoc]; exact rest_len kind _ hk

/-- Slices of bytes in a row of memory. -/
def PartsAt (w : World) (A : Option Addr) (m c : Nat) (ls : List (List UInt8)) : Prop :=
  m = ls.length ∧ m ≤ c ∧ c ≤ maxLen ∧ (0 < m → ∃ b off, A = some ⟨b, off, none⟩ ∧ b < w.heap.size ∧
    ∀ (i : Nat) (l : List UInt8), ls[i]? = some l → ∃ A' m' c', w.cell? ⟨b, off + i, none⟩ = some (.slice A' m' c') ∧ Rd w A' m' c' l)

theorem of_none (kind : Int) (hk : kind < 1 ∨ 5 < kind) (A : Option Addr) (m c : Nat) (ls : List (List UInt8)) (w : World) (hp : PartsAt w A m c ls) :
    Calls Tryd.prog 53 #[.int .i64 kind, .slice A m c] w fun e w' => e = .returned (.slice none 0 0) ∧ Below w.heap.size w w' := by
  have HN := Lib.hid (new_none kind w hk)
  have hm := hp.1
  have hmc := hp.2.1
  have hcm := hp.2.2.1
  unfold maxLen at hcm
  have HP := Lib.hid hp
  have Hm := Lib.hid hm
  clear hp hk hm
  go_enter Tryd.func53, Tryd.ntmps53
  go_wp2_with (go_at_call 54; refine HN.out.mono ?_; rintro e w1 ⟨rfl, rfl⟩)
  go_loopw [12] (fun i wr => ∃ k : Nat, k ≤ m ∧ i = .int .i64 k ∧ Below w.heap.size w wr) (fun i _ => m - (intOf i).toNat)
  case atStart => exact ⟨0, by omega, rfl, Below.refl _ _⟩
  case round =>
    obtain ⟨k, hk, rfl, hB⟩ := hrel
    rcases Nat.lt_or_ge k m with hlt | hge
    · obtain ⟨b, off, rfl, hbl, hcell⟩ := HP.out.2.2.2 (by omega)
      obtain ⟨l, hl⟩ : ∃ l, ls[k]? = some l := ⟨_, List.getElem?_eq_getElem (by rw [← Hm.out]; exact hlt)⟩
      obtain ⟨A', m', c', hc, hr⟩ := hcell k l hl
      have hc' := (hB.cell (p := ⟨b, off + k, none⟩) hbl).trans hc
      have hki : (k : Int) < m := by omega
      have hk0 : (0 : Int) ≤ k := by omega
      have Hr := Lib.hid hB
      clear hB hcell hl hc hr hlt hk
      go_wp2_with (go_at_call 55; refine (write_nil _ _ _ _).mono ?_; rintro e w2 ⟨rfl, hb⟩)
      go_roundw
      case rel => exact ⟨k + 1, by omega, by go_num, Hr.out.trans (hb.mono Hr.out.size)⟩
      case measure => simp [intOf]; omega
    · obtain rfl : k = m := by omega
      have hq : ¬ ((k : Int) < k) := by omega
      have Hr := Lib.hid hB
      clear hB hk hge
      go_wp2_with (go_at_call 57; refine (sum_nil _).mono ?_; rintro e w2 ⟨rfl, hb⟩)
      go_ret
      exact ⟨rfl, Hr.out.trans (hb.mono Hr.out.size)⟩

set_option maxHeartbeats 1000000 in
theorem of_any (kind : Int) (hk : 1 ≤ kind ∧ kind ≤ 5) (A : Option Addr) (m c : Nat) (ls : List (List UInt8)) (w : World) (hp : PartsAt w A m c ls) (hl : ∀ l ∈ ls, l.length ≤ 140737488355000) (hK : KAt w) :
    Calls Tryd.prog 53 #[.int .i64 kind, .slice A m c] w fun e w' => ∃ g c, e = .returned (.slice (some ⟨g, 0, none⟩) ((writes kind ls).sum kind).length c) ∧
      Own w' w.heap.size (.slice (some ⟨g, 0, none⟩) ((writes kind ls).sum kind).length c) ((writes kind ls).sum kind) ∧ Below w.heap.size w w' := by
  have HN := Lib.hid (new_any kind w hk hK)
  have HP := Lib.hid (And.intro hp (And.intro hl hK))
  have hm := hp.1
  have hmc := hp.2.1
  have hcm := hp.2.2.1
  unfold maxLen at hcm
  have Hk := Lib.hid hk
  have Hm := Lib.hid hm
  clear hp hl hK hk hm
  go_enter Tryd.func53, Tryd.ntmps53
  go_wp2_with (go_at_call 54; refine HN.out.mono ?_; rintro e w1 ⟨d, rfl, hd, hA, hb⟩)
  have hb0 : (0 : Nat) ≤ m := Nat.zero_le _
  have HA := Lib.hid (And.intro hd (And.intro hA hb))
  clear hd hA hb HN
  go_loopw [12] (fun i wr => ∃ (k : Nat) (wv : Value), k ≤ m ∧ i = .int .i64 k ∧ HashAt wr d kind (writes kind (ls.take k)).hs (writes kind (ls.take k)).wait (writes kind (ls.take k)).n wv ∧ (∀ g, wv.ownBlock = some g → w.heap.size ≤ g) ∧ Below w.heap.size w wr) (fun i _ => m - (intOf i).toNat)
  case atStart => exact ⟨0, _, by omega, rfl, HA.out.2.1, fun g h => by simp [Value.ownBlock] at h, HA.out.2.2⟩
  case round =>
    obtain ⟨k, wv, hk, rfl, hA, hwv, hB⟩ := hrel
    have hKr := HP.out.2.2.below hB
    have hdl : w.heap.size ≤ d := HA.out.1
    have hwt := writes_wait kind Hk.out (ls.take k)
    rcases Nat.lt_or_ge k m with hlt | hge
    · obtain ⟨b, off, rfl, hbl, hcell⟩ := HP.out.1.2.2.2 (by omega)
      obtain ⟨l, hl⟩ : ∃ l, ls[k]? = some l := ⟨_, List.getElem?_eq_getElem (by rw [← Hm.out]; exact hlt)⟩
      obtain ⟨A', m', c', hc, hr⟩ := hcell k l hl
      have hc' := (hB.cell (p := ⟨b, off + k, none⟩) hbl).trans hc
      have hll := HP.out.2.1 l (List.mem_of_getElem? hl)
      have HW := Lib.hid (write_any d kind _ _ _ wv A' m' c' l wr hA (hr.below hB) (by omega) hKr (fun ad had => by
        have h1 := hr.lt ad had
        exact ⟨by omega, fun h => by have := hwv _ h; omega⟩))
      have hsc := Lib.hid (show writes kind (ls.take (k + 1)) = (writes kind (ls.take k)).write kind l by rw [List.take_add_one, hl]; exact writes_snoc _ _ _)
      have hki : (k : Int) < m := by omega
      have hk0 : (0 : Int) ≤ k := by omega
      have Hr := Lib.hid (And.intro hwv (And.intro hB hdl))
      clear hA hwv hB hKr hwt hcell hl hc hr hll hlt hk hdl
      go_wp2_with (go_at_call 55; refine HW.out.mono ?_; rintro e w2 ⟨rfl, ⟨wv', hA', hwv'⟩, hT'⟩)
      go_roundw
      case rel =>
        obtain ⟨hwv, hB, hdl⟩ := Hr.out
        refine ⟨k + 1, wv', by omega, by go_num, by rw [hsc.out]; exact hA', fun g hg => Nat.le_trans hB.size (hwv' g hg), below_turn hB hT' ?_ hB.size⟩
        intro t ht
        rcases List.mem_cons.1 ht with rfl | ht
        · exact hdl
        · exact hwv t (by simpa using ht)
      case measure => simp [intOf]; omega
    · obtain rfl : k = m := by omega
      have hq : ¬ ((k : Int) < k) := by omega
      rw [List.take_of_length_le (by rw [← Hm.out]; omega)] at hA hwt
      have HS := Lib.hid (sum_any d kind _ _ _ wv wr hA (by omega) hKr)
      have Hr := Lib.hid hB
      clear hA hwv hB hKr hwt hk hge hdl
      go_wp2_with (go_at_call 57; refine HS.out.mono ?_; rintro e w2 ⟨g, c', rfl, hO, hb⟩)
      go_ret
      exact ⟨g, c', rfl, hO.mono Hr.out.size, Hr.out.trans (hb.mono Hr.out.size)⟩
end Go.Proofs.YtdgjjmaiibafhaaDoor
