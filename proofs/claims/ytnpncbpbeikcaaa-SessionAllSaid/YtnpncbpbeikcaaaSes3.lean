/-
  Sessions: a row is asked; open; find.
-/
import Derived.Test.YtnpncbpbeikcaaaSes2
namespace Go.Proofs.Ytnpncbpbeikcaaa
open Go.RowKit

theorem sess_at {W : World} {A : Option Addr} {m : Nat} {l : List PS} (h : RdC Try.eS W A m l) {j : Nat} {x : PS} (hj : l[j]? = some x) :
    ∃ g off, A = some ⟨g, off, none⟩ ∧ g < W.heap.size ∧ W.cell? ⟨g, off + j * 4, none⟩ = some (.int .i64 x.h) ∧ W.cell? ⟨g, off + j * 4 + 1, none⟩ = some (.int .i64 x.c) ∧ W.cell? ⟨g, off + j * 4 + 2, none⟩ = some (.int .i64 x.s) ∧ W.cell? ⟨g, off + j * 4 + 3, none⟩ = some (.bool x.rw) := by
  obtain ⟨g, off, hA, hg, hc⟩ := h.at_ hj
  have c0 := hc 0 (by decide)
  have c1 := hc 1 (by decide)
  have c2 := hc 2 (by decide)
  have c3 := hc 3 (by decide)
  exact ⟨g, off, hA, hg, c0, by rw [← Nat.add_assoc] at c1; exact c1, by rw [← Nat.add_assoc] at c2; exact c2, by rw [← Nat.add_assoc] at c3; exact c3⟩
/-- A function that a row is asked with. -/
structure Asked (kf : Nat) (caps : Array Value) (p : PS → Bool) (w0 : World) : Prop where
  enters : ∀ args w, (callFunc kf args).run Try.prog w = .ok (.enter kf args) w
  ask : ∀ w x, Below w0.heap.size w0 w → Calls Try.prog kf (#[.agg #[.int .i64 x.h, .int .i64 x.c, .int .i64 x.s, .bool x.rw]] ++ caps) w fun e w' => e = .returned (.bool (p x)) ∧ Below w.heap.size w w'
theorem Asked.below {kf : Nat} {caps : Array Value} {p : PS → Bool} {w0 w1 : World} (h : Asked kf caps p w0) (hb : Below w0.heap.size w0 w1) : Asked kf caps p w1 := ⟨h.enters, fun w x hw => h.ask w x (hb.trans (hw.mono hb.size))⟩
theorem any_take_succ (l : List PS) (p : PS → Bool) (k : Nat) (x : PS) (h : l[k]? = some x) : (l.take (k + 1)).any p = ((l.take k).any p || p x) := by
  rw [List.take_add_one, h]; simp
theorem any_of_get {l : List PS} {p : PS → Bool} {k : Nat} {x : PS} (h : l[k]? = some x) (hp : p x = true) : l.any p = true := List.any_eq_true.2 ⟨x, List.mem_of_getElem? h, hp⟩
set_option maxHeartbeats 1000000 in
theorem index_any (A : Option Addr) (m c : Nat) (l : List PS) (kf : Nat) (caps : Array Value) (p : PS → Bool) (w : World) (h : RdC Try.eS w A m l) (hm : m ≤ 1000) (hA : Asked kf caps p w) :
    Calls Try.prog 45 #[.slice A m c, .func (.func kf) #[] caps] w fun e w' => ∃ r : Int, e = .returned (.int .i64 r) ∧ decide (0 ≤ r) = l.any p ∧ Below w.heap.size w w' := by
  have hml := h.1
  have H := Lib.hid (And.intro h (And.intro hA hml))
  clear h hml hA
  have hEN := H.out.2.1.enters
  have hEN0 := Lib.hid hEN
  clear hEN
  go_enter Try.func45, Try.ntmps45
  go_wp2_with fail
  go_loopw [8] (fun kk wr => ∃ k : Nat, k ≤ m ∧ kk = .int .i64 (k : Int) ∧ (l.take k).any p = false ∧ Below w.heap.size w wr) (fun kk _ => m - (intOf kk).toNat)
  case atStart => exact ⟨0, by omega, rfl, by simp, Below.refl _ _⟩
  case round =>
    obtain ⟨k, hk, rfl, hany, hB⟩ := hrel
    by_cases hlt : k < m
    · have hlti : (k : Int) < m := by omega
      have hltd : decide ((k : Int) < (m : Int)) = true := decide_eq_true hlti
      have hk0 : ¬ ((k : Int) < 0) := by omega
      obtain ⟨x, hx⟩ : ∃ x, l[k]? = some x := ⟨_, List.getElem?_eq_getElem (by rw [H.out.2.2]; exact hlt)⟩
      obtain ⟨g, off, hAe, hg, c0, c1, c2, c3⟩ := sess_at (H.out.1.below hB) hx
      subst hAe
      have hask := H.out.2.1.ask wr x hB
      obtain ⟨b, hb⟩ : ∃ b, p x = b := ⟨_, rfl⟩
      rw [hb] at hask
      have HQ := Lib.hid (And.intro hany (And.intro hB (And.intro hx (And.intro hb hask))))
      clear hany hB hx hb hask hg
      have hEN := hEN0.out
      go_wp2_with fail
      refine HQ.out.2.2.2.2.mono ?_
      rintro e w2 ⟨rfl, hb2⟩
      have H2 := Lib.hid (HQ.out.2.1.trans (hb2.mono HQ.out.2.1.size))
      clear hb2 c0 c1 c2 c3
      cases b with
      | true =>
        go_wp2_with fail
        go_ret
        refine ⟨k, rfl, ?_, H2.out⟩
        rw [any_of_get HQ.out.2.2.1 HQ.out.2.2.2.1, decide_eq_true (by omega)]
      | false =>
        go_wp2_with fail
        go_roundw
        case measure => simp [intOf]; omega
        exact ⟨k + 1, by omega, by simp, by rw [any_take_succ l p k x HQ.out.2.2.1, HQ.out.1, HQ.out.2.2.2.1]; rfl, H2.out⟩
    · obtain rfl : k = m := by omega
      have hlti : ¬ ((k : Int) < k) := by omega
      rw [List.take_of_length_le (by rw [H.out.2.2]; exact Nat.le_refl _)] at hany
      have HQ := Lib.hid (And.intro hany hB)
      clear hany hB
      go_wp2_with fail
      go_ret
      refine ⟨-1, rfl, ?_, HQ.out.2⟩
      rw [HQ.out.1]; rfl
set_option maxHeartbeats 1000000 in
theorem contains_any (A : Option Addr) (m c : Nat) (l : List PS) (kf : Nat) (caps : Array Value) (p : PS → Bool) (w : World) (h : RdC Try.eS w A m l) (hm : m ≤ 1000) (hA : Asked kf caps p w) :
    Calls Try.prog 41 #[.slice A m c, .func (.func kf) #[] caps] w fun e w' => e = .returned (.bool (l.any p)) ∧ Below w.heap.size w w' := by
  have hc := index_any A m c l kf caps p w h hm hA
  have HC := Lib.hid hc
  clear hc h hA
  go_enter Try.func41, Try.ntmps41
  go_wp2_with fail
  refine HC.out.mono ?_
  rintro e w2 ⟨r, rfl, hr, hb⟩
  have HR := Lib.hid (And.intro hr hb)
  clear hr hb
  go_wp2_with fail
  go_ret
  exact ⟨by first | (rw [← HR.out.1]; done) | (rw [← HR.out.1]; rfl) | simp [← HR.out.1], HR.out.2⟩
/-- Is any session open there? -/
def PT.open_ (T : PT) (a b : Int) : Bool := T.l.any fun x => decide (x.c = a ∧ x.s = b)
set_option maxHeartbeats 1000000 in
theorem open_any (B p : Nat) (S : List Nat) (T : PT) (a b : Int) (w : World) (h : Tb w B p S T) :
    Calls Try.prog 44 #[.pointer (some ⟨p, 0, none⟩), .agg #[.int .i64 a, .int .i64 b]] w fun e w' => e = .returned (.bool (T.open_ a b)) ∧ Below w.heap.size w w' := by
  obtain ⟨A, m, c, mb, hT, rfl⟩ := h
  obtain ⟨wA, hwA⟩ : ∃ wA, w.alloc (.cells #[.int .i64 a, .int .i64 b] 56) = wA := ⟨_, rfl⟩
  have bA : Blk wA w.heap.size 56 #[.int .i64 a, .int .i64 b] := by rw [← hwA]; exact Blk.new _ _ _
  have hbA : Below w.heap.size w wA := by rw [← hwA]; exact (Below.refl _ _).alloc (Nat.le_refl _) _
  have hTA := hT.below hbA
  obtain ⟨q0, q1, q2⟩ := hTA.cells
  have hK : Asked 46 #[.pointer (some ⟨w.heap.size, 0, none⟩)] (fun x => decide (x.c = a ∧ x.s = b)) wA := ⟨fun _ _ => by kernel_rfl, fun w' x hw' => open1_any _ a b x w' (bA.below hw')⟩
  have hm : m ≤ 1000 := by rw [hT.row.len]; exact hT.small
  obtain ⟨r, hr⟩ : ∃ r, T.open_ a b = r := ⟨_, rfl⟩
  have hc := contains_any A m c T.l _ _ _ wA hTA.row.rd hm hK
  rw [show (T.l.any fun x => decide (x.c = a ∧ x.s = b)) = r from hr] at hc
  rw [hr]
  clear hr
  have H := Lib.hid (And.intro hc hbA)
  clear hT hTA hK hc bA hbA
  go_enter Try.func44, Try.ntmps44
  go_wp2_with fail
  refine H.out.1.mono ?_
  rintro e w2 ⟨rfl, hb⟩
  have H2 := Lib.hid (H.out.2.trans (hb.mono H.out.2.size))
  clear hb
  go_wp2_with fail
  go_ret
  exact ⟨rfl, H2.out⟩
/-- The place of a session of a connection. -/
def PT.at_ (T : PT) (conn h : Int) : Option Nat := T.l.findIdx? fun x => decide (x.h = h ∧ x.c = conn)
theorem find_nil (a b : Int) (w : World) : Calls Try.prog 29 #[.pointer none, .int .i64 a, .int .i64 b] w fun e w' => e = .returned (.pointer none) ∧ w = w' := by
  go_enter Try.func29, Try.ntmps29
  go_wp2
  go_ret
  exact ⟨rfl, rfl⟩
def FindRes (A : Option Addr) (l : List PS) (conn hh : Int) (e : Ending) : Prop :=
  (e = .returned (.pointer none) ∧ ∀ x ∈ l, ¬ (x.h = hh ∧ x.c = conn)) ∨
  ∃ k x g off, e = .returned (.pointer (some ⟨g, off + k * 4, none⟩)) ∧ A = some ⟨g, off, none⟩ ∧ l[k]? = some x ∧ x.h = hh ∧ x.c = conn ∧ ∀ j y, j < k → l[j]? = some y → ¬ (y.h = hh ∧ y.c = conn)
set_option maxHeartbeats 2000000 in
theorem find_any (B p : Nat) (A : Option Addr) (m c mb : Nat) (T : PT) (conn hh : Int) (w : World) (h : TbAt w B p A m c mb T) :
    Calls Try.prog 29 #[.pointer (some ⟨p, 0, none⟩), .int .i64 conn, .int .i64 hh] w fun e w' => FindRes A T.l conn hh e ∧ w = w' := by
  have hm : m ≤ 1000 := by rw [h.row.len]; exact h.small
  have hml := h.row.rd.1
  obtain ⟨q0, q1, q2⟩ := h.cells
  have hrd := h.row.rd
  have H := Lib.hid (And.intro hrd hml)
  clear hrd hml h q1 q2
  go_enter Try.func29, Try.ntmps29
  go_wp2_with fail
  go_loopw [15] (fun kk wr => ∃ k : Nat, k ≤ m ∧ kk = .int .i64 (k : Int) ∧ (∀ j y, j < k → T.l[j]? = some y → ¬ (y.h = hh ∧ y.c = conn)) ∧ w = wr) (fun kk _ => m - (intOf kk).toNat)
  case atStart => exact ⟨0, by omega, rfl, fun j y hj => by omega, rfl⟩
  case round =>
    obtain ⟨k, hk, rfl, hno, rfl⟩ := hrel
    by_cases hlt : k < m
    · have hlti : (k : Int) < m := by omega
      have hltd : decide ((k : Int) < (m : Int)) = true := decide_eq_true hlti
      have hk0 : ¬ ((k : Int) < 0) := by omega
      obtain ⟨x, hx⟩ : ∃ x, T.l[k]? = some x := ⟨_, List.getElem?_eq_getElem (by rw [H.out.2]; exact hlt)⟩
      obtain ⟨g, off, hAe, hg, c0, c1, c2, c3⟩ := sess_at H.out.1 hx
      have HQ := Lib.hid (And.intro hno (And.intro hx hAe))
      rw [hAe] at q0
      clear hno hx hg hAe
      have hstep : ¬ (x.h = hh ∧ x.c = conn) → ∀ j y, j < k + 1 → T.l[j]? = some y → ¬ (y.h = hh ∧ y.c = conn) := fun hn j y hj hy => by
        rcases Nat.lt_or_ge j k with h | h
        · exact HQ.out.1 j y h hy
        · obtain rfl : j = k := by omega
          rw [HQ.out.2.1] at hy
          injection hy with hy
          rw [← hy]; exact hn
      have HS := Lib.hid hstep
      clear hstep
      by_cases hh1 : x.h = hh
      · by_cases hh2 : x.c = conn
        · have d1 : decide (x.h = hh) = true := decide_eq_true hh1
          have d2 : decide (x.c = conn) = true := decide_eq_true hh2
          go_wp2_with fail
          go_ret
          exact ⟨.inr ⟨k, x, g, off, rfl, HQ.out.2.2, HQ.out.2.1, hh1, hh2, HQ.out.1⟩, rfl⟩
        · have d1 : decide (x.h = hh) = true := decide_eq_true hh1
          have d2 : decide (x.c = conn) = false := decide_eq_false hh2
          go_wp2_with fail
          go_roundw
          case measure => simp [intOf]; omega
          exact ⟨k + 1, by omega, by simp, HS.out (fun e => hh2 e.2), by first | rfl | trivial⟩
      · have d1 : decide (x.h = hh) = false := decide_eq_false hh1
        go_wp2_with fail
        go_roundw
        case measure => simp [intOf]; omega
        exact ⟨k + 1, by omega, by simp, HS.out (fun e => hh1 e.1), by first | rfl | trivial⟩
    · obtain rfl : k = m := by omega
      have hlti : ¬ ((k : Int) < k) := by omega
      have HQ := Lib.hid hno
      clear hno
      go_wp2_with fail
      go_ret
      refine ⟨.inl ⟨rfl, fun x hx => ?_⟩, rfl⟩
      obtain ⟨j, hj⟩ := List.getElem?_of_mem hx
      refine HQ.out j x ?_ hj
      rcases Nat.lt_or_ge j T.l.length with h | h
      · rw [H.out.2] at h; exact h
      · rw [List.getElem?_eq_none h] at hj; cases hj
end Go.Proofs.Ytnpncbpbeikcaaa
