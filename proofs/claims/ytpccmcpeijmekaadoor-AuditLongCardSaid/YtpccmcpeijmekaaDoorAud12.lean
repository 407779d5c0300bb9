/-
  Contract of the law's chain.
-/
import Derived.Test.YtpccmcpeijmekaaDoorAud11
import Derived.Test.YtpccmcpeijmekaaDoorOpenEnt
namespace Go.Proofs.YtpccmcpeijmekaaDoor
open Go.RowKit

def RawE.ent (e : RawE) : Ent := ⟨0, e.t.toNat, e.f.toNat, e.r.toNat, e.l.toNat⟩
instance (e : RawE) : Decidable (okE e.t e.f e.r e.l) := by unfold okE; infer_instance
/-- Those entries that make lines. -/
def okOf (es : List RawE) : List Ent := (es.filter fun e => decide (okE e.t e.f e.r e.l)).map RawE.ent
theorem RawE.ent_ok {e : RawE} (h : okE e.t e.f e.r e.l) : e.ent.ok := by
  have hw := e.wf
  obtain ⟨h1, h2, h3, h4, h5, h6, h7⟩ := h
  refine ⟨?_, ?_, ?_, ?_⟩ <;> unfold RawE.ent <;> simp only <;> omega
theorem RawE.cast {e : RawE} (h : okE e.t e.f e.r e.l) : entV e.s e.t e.f e.r e.l = entV e.s e.ent.time e.ent.fn e.ent.rv e.ent.slot := by
  obtain ⟨h1, h2, h3, h4, h5, h6, h7⟩ := h
  unfold RawE.ent
  simp only
  rw [Int.toNat_of_nonneg h1, Int.toNat_of_nonneg h2, Int.toNat_of_nonneg h4, Int.toNat_of_nonneg h6]
theorem okOf_ok (es : List RawE) : ∀ e ∈ okOf es, e.ok := by
  intro e he
  obtain ⟨r, hr, rfl⟩ := List.mem_map.1 he
  exact RawE.ent_ok (by simpa using (List.mem_filter.1 hr).2)
theorem okOf_len (es : List RawE) : (okOf es).length ≤ es.length := by
  unfold okOf
  rw [List.length_map]
  exact List.length_filter_le _ _
theorem okOf_snoc (es : List RawE) (j : Nat) (e : RawE) (h : es[j]? = some e) : okOf (es.take (j + 1)) = okOf (es.take j) ++ if okE e.t e.f e.r e.l then [e.ent] else [] := by
  unfold okOf
  rw [List.take_add_one, h]
  simp only [Option.toList_some, List.filter_append, List.map_append, List.filter_cons, List.filter_nil]
  by_cases hk : okE e.t e.f e.r e.l
  · simp [hk]
  · simp [hk]
/-- The log of the entries up to j. -/
def logTo (es : List RawE) (j : Nat) : List UInt8 := chainOf (rof 3) (okOf (es.take j))
theorem logTo_len (es : List RawE) (j : Nat) : (logTo es j).length = 52 * (okOf (es.take j)).length := chainOf_len (H := rof 3) rof3_len _
theorem logTo_yes (es : List RawE) (j : Nat) (e : RawE) (h : es[j]? = some e) (hk : okE e.t e.f e.r e.l) : logTo es (j + 1) = addLine (rof 3) (logTo es j) e.ent := by
  unfold logTo
  rw [okOf_snoc es j e h, if_pos hk]
  unfold chainOf
  rw [List.foldl_append]
  rfl
theorem logTo_no (es : List RawE) (j : Nat) (e : RawE) (h : es[j]? = some e) (hk : ¬ okE e.t e.f e.r e.l) : logTo es (j + 1) = logTo es j := by
  unfold logTo
  rw [okOf_snoc es j e h, if_neg hk, List.append_nil]
theorem okTo_len (es : List RawE) (j : Nat) : (okOf (es.take j)).length ≤ j := Nat.le_trans (okOf_len _) (by rw [List.length_take]; exact Nat.min_le_left _ _)
theorem rappend_raw (A : Option Addr) (m c q : Nat) (log : List UInt8) (e : RawE) (w : World) (hr : Rd w A m c log) (hm : m = q * 52) (hq : m ≤ 1000000000) (he : okE e.t e.f e.r e.l) :
    Calls Tryd.prog 8 #[.slice A m c, .agg #[.int .i64 e.s, .int .i64 e.t, .int .i64 e.f, .int .i64 e.r, .int .i64 e.l]] w (AppYes w (addLine (rof 3) log e.ent)) := by
  have := rappend_yes A m c q log e.s e.ent w hr hm hq (RawE.ent_ok he)
  rw [← RawE.cast he] at this
  exact this
theorem append_raw (A : Option Addr) (m c q : Nat) (log : List UInt8) (e : RawE) (w : World) (hr : Rd w A m c log) (hm : m = q * 52) (hq : m ≤ 1000000000) (he : okE e.t e.f e.r e.l) (hK : KAt w) :
    Calls Tryd.prog 7 #[.slice A m c, .agg #[.int .i64 e.s, .int .i64 e.t, .int .i64 e.f, .int .i64 e.r, .int .i64 e.l]] w (AppYes w (addLine (rof 3) log e.ent)) := by
  have := append_yes A m c q log e.s e.ent w hr hm hq (RawE.ent_ok he) hK
  rw [← RawE.cast he] at this
  exact this

set_option maxHeartbeats 1000000 in
theorem chain_any (A : Option Addr) (m c N : Nat) (es : List RawE) (w : World) (he : EntsAt w A m es) (hN : N ≤ 100) :
    Calls Tryd.prog 13 #[.slice A m c, .int .i64 (N : Int)] w (RowRes w (logTo es (min m N))) := by
  have HH := Lib.hid he
  have hNi : (N : Int) ≤ 100 := by omega
  clear he
  go_enter Tryd.func13, Tryd.ntmps13
  go_wp2
  go_loopw [5, 6] (fun v i wr => ∃ (j n1 c1 : Nat) (A1 : Option Addr), j ≤ m ∧ j ≤ N ∧ i = .int .i64 (j : Nat) ∧ v = .slice A1 n1 c1 ∧ Own wr w.heap.size (.slice A1 n1 c1) (logTo es j) ∧ Below w.heap.size w wr) (fun _ i _ => N - (intOf i).toNat)
  case atStart => exact ⟨0, 0, 0, none, by omega, by omega, rfl, rfl, Own.nil _ _, Below.refl _ _⟩
  case round =>
    obtain ⟨j, n1, c1, A1, hj1, hj2, rfl, rfl, hO, hB⟩ := hrel
    have hn1 := hO.len
    rw [logTo_len] at hn1
    have hok := okTo_len es j
    have H1 := Lib.hid (And.intro hO (And.intro hB (And.intro hn1 (And.intro hok (And.intro hj1 hj2)))))
    clear hO hB hn1
    by_cases hlt : j < m ∧ j < N
    · obtain ⟨hl1, hl2⟩ := hlt
      have hi1 : (j : Int) < m := by omega
      have hi2 : (j : Int) < N := by omega
      have hj0 : (0 : Int) ≤ j := by omega
      obtain ⟨hpl, hz0 | ⟨b, off, rfl, hbl, hrow⟩⟩ := HH.out
      · omega
      obtain ⟨e, hee⟩ : ∃ e, es[j]? = some e := ⟨_, List.getElem?_eq_getElem (by omega)⟩
      obtain ⟨r0, r1, r2, r3, r4⟩ := (hrow j e hee).old hbl H1.out.2.1
      have HE := Lib.hid (And.intro hee (And.intro hl1 hl2))
      clear hrow hee hl1 hl2 hok hj1 hj2 hpl
      by_cases hk : okE e.t e.f e.r e.l
      · go_wp2_with (go_at_call 8; refine (rappend_raw A1 n1 c1 (okOf (es.take j)).length (logTo es j) e wr H1.out.1.rd (by have := H1.out.2.2.1; omega) (by have := H1.out.2.2.1; have := H1.out.2.2.2.1; have := H1.out.2.2.2.2.2; omega) hk).mono ?_; rintro en w2 ⟨A2, n2, c2, rfl, hO2, hb2⟩; rw [← logTo_yes es j e HE.out.1 hk] at hO2; have X2 := Lib.hid (And.intro hO2 hb2); clear hO2 hb2)
        go_roundw
        case rel => exact ⟨j + 1, n2, c2, A2, HE.out.2.1, HE.out.2.2, by go_num, rfl, X2.out.1.mono H1.out.2.1.size, H1.out.2.1.trans (X2.out.2.mono H1.out.2.1.size)⟩
        case measure => have := HE.out.2.2; simp [intOf]; omega
      · go_wp2_with (go_at_call 8; refine (rappend_no (.int .i64 0) A1 n1 c1 (okOf (es.take j)).length e.s e.t e.f e.r e.l wr (by have := H1.out.2.2.1; omega) (by have := H1.out.2.2.1; have := H1.out.2.2.2.1; have := H1.out.2.2.2.2.2; omega) hk).mono ?_; rintro en w2 ⟨rfl, hb2⟩; have X2 := Lib.hid hb2; clear hb2)
        go_roundw
        case rel => exact ⟨j + 1, n1, c1, A1, HE.out.2.1, HE.out.2.2, by go_num, rfl, by rw [logTo_no es j e HE.out.1 hk]; exact H1.out.1.below X2.out, H1.out.2.1.trans (X2.out.mono H1.out.2.1.size)⟩
        case measure => have := HE.out.2.2; simp [intOf]; omega
    · have hlt' : ((j : Int) < m ∧ ¬ ((j : Int) < N)) ∨ ¬ ((j : Int) < m) := by omega
      obtain rfl : j = min m N := by omega
      clear hlt hok hj1 hj2
      rcases hlt' with ⟨hx1, hx2⟩ | hx1
      all_goals
        go_wp2
        go_ret
        exact ⟨_, _, _, rfl, H1.out.1, H1.out.2.1⟩
end Go.Proofs.YtpccmcpeijmekaaDoor
