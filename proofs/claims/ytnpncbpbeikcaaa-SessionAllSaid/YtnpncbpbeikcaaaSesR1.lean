/-
  The reference's sessions: the table; User, Has, Find, Used.
-/
import Derived.Test.YtnpncbpbeikcaaaSes8
namespace Go.Proofs.Ytnpncbpbeikcaaa
open Go.RowKit Go.Maps

/-- The reference's table, plainly. -/
structure RP where
  l : List PS
  next : Int
  who : List PL
structure RAt (W : World) (B r : Nat) (A : Option Addr) (m c : Nat) (A2 : Option Addr) (m2 c2 : Nat) (R : RP) : Prop where
  blk : Blk W r 30 #[.slice A m c, .int .i64 R.next, .slice A2 m2 c2]
  row : OwnE Try.eR W B (.slice A m c) R.l
  who : OwnE Try.eL W B (.slice A2 m2 c2) R.who
  lr : B ≤ r
  s1 : R.l.length ≤ 1000
  s2 : R.who.length ≤ 1000
def rblocks (A : Option Addr) (m c : Nat) (A2 : Option Addr) (m2 c2 : Nat) (r : Nat) : List Nat := r :: ((Value.slice A m c).ownBlock.toList ++ (Value.slice A2 m2 c2).ownBlock.toList)
def Rb (W : World) (B r : Nat) (S : List Nat) (R : RP) : Prop := ∃ A m c A2 m2 c2, RAt W B r A m c A2 m2 c2 R ∧ S = rblocks A m c A2 m2 c2 r
theorem RAt.ge {W : World} {B r : Nat} {A : Option Addr} {m c : Nat} {A2 : Option Addr} {m2 c2 : Nat} {R : RP} (h : RAt W B r A m c A2 m2 c2 R) : ∀ x ∈ rblocks A m c A2 m2 c2 r, B ≤ x ∧ x < W.heap.size := by
  intro x hx
  unfold rblocks at hx
  rcases List.mem_cons.1 hx with rfl | hx
  · exact ⟨h.lr, h.blk.lt⟩
  · rcases List.mem_append.1 hx with hx | hx
    · exact h.row.lt (g := x) (by simpa using hx)
    · exact h.who.lt (g := x) (by simpa using hx)
theorem RAt.below {W W' : World} {B r : Nat} {A : Option Addr} {m c : Nat} {A2 : Option Addr} {m2 c2 : Nat} {R : RP} (h : RAt W B r A m c A2 m2 c2 R) (hb : Below W.heap.size W W') : RAt W' B r A m c A2 m2 c2 R :=
  ⟨h.blk.below hb, h.row.below hb, h.who.below hb, h.lr, h.s1, h.s2⟩
theorem RAt.keep {W W' : World} {B r : Nat} {A : Option Addr} {m c : Nat} {A2 : Option Addr} {m2 c2 : Nat} {R : RP} (h : RAt W B r A m c A2 m2 c2 R) {S : List Nat} (ht : Turn S W W') (hd : ∀ x ∈ rblocks A m c A2 m2 c2 r, x ∉ S) : RAt W' B r A m c A2 m2 c2 R := by
  unfold rblocks at hd
  exact ⟨h.blk.turn ht (hd r (by simp)), h.row.turn ht (fun g hg => hd g (by simp [hg])), h.who.turn ht (fun g hg => hd g (by simp [hg])), h.lr, h.s1, h.s2⟩
theorem Rb.below {W W' : World} {B r : Nat} {S : List Nat} {R : RP} (h : Rb W B r S R) (hb : Below W.heap.size W W') : Rb W' B r S R := by
  obtain ⟨A, m, c, A2, m2, c2, h, e⟩ := h
  exact ⟨A, m, c, A2, m2, c2, h.below hb, e⟩
theorem Rb.keep {W W' : World} {B r : Nat} {S : List Nat} {R : RP} (h : Rb W B r S R) {S' : List Nat} (ht : Turn S' W W') (hd : ∀ x ∈ S, x ∉ S') : Rb W' B r S R := by
  obtain ⟨A, m, c, A2, m2, c2, h, rfl⟩ := h
  exact ⟨A, m, c, A2, m2, c2, h.keep ht hd, rfl⟩
theorem Rb.ge {W : World} {B r : Nat} {S : List Nat} {R : RP} (h : Rb W B r S R) : ∀ x ∈ S, B ≤ x ∧ x < W.heap.size := by
  obtain ⟨A, m, c, A2, m2, c2, h, rfl⟩ := h
  exact h.ge
theorem RAt.cells {W : World} {B r : Nat} {A : Option Addr} {m c : Nat} {A2 : Option Addr} {m2 c2 : Nat} {R : RP} (h : RAt W B r A m c A2 m2 c2 R) : W.cell? ⟨r, 0, none⟩ = some (.slice A m c) ∧ W.cell? ⟨r, 1, none⟩ = some (.int .i64 R.next) ∧ W.cell? ⟨r, 2, none⟩ = some (.slice A2 m2 c2) := by
  have q0 := h.blk.cell 0
  have q1 := h.blk.cell 1
  have q2 := h.blk.cell 2
  simp only [List.getElem?_toArray, List.getElem?_cons_succ, List.getElem?_cons_zero] at q0 q1 q2
  exact ⟨q0, q1, q2⟩
theorem rsess_at {W : World} {A : Option Addr} {m : Nat} {l : List PS} (h : RdC Try.eR W A m l) {j : Nat} {x : PS} (hj : l[j]? = some x) :
    ∃ g off, A = some ⟨g, off, none⟩ ∧ W.cell? ⟨g, off + j * 4, none⟩ = some (.int .i64 x.h) ∧ W.cell? ⟨g, off + j * 4 + 1, none⟩ = some (.int .i64 x.c) ∧ W.cell? ⟨g, off + j * 4 + 2, none⟩ = some (.int .i64 x.s) ∧ W.cell? ⟨g, off + j * 4 + 3, none⟩ = some (.bool x.rw) := by
  obtain ⟨g, off, hA, hg, hc⟩ := h.at_ hj
  have c0 := hc 0 (by decide)
  have c1 := hc 1 (by decide)
  have c2 := hc 2 (by decide)
  have c3 := hc 3 (by decide)
  rw [← Nat.add_assoc] at c1 c2 c3
  exact ⟨g, off, hA, c0, c1, c2, c3⟩
theorem login_at {W : World} {A : Option Addr} {m : Nat} {l : List PL} (h : RdC Try.eL W A m l) {j : Nat} {x : PL} (hj : l[j]? = some x) :
    ∃ g off, A = some ⟨g, off, none⟩ ∧ W.cell? ⟨g, off + j * 3, none⟩ = some (.int .i64 x.c) ∧ W.cell? ⟨g, off + j * 3 + 1, none⟩ = some (.int .i64 x.s) ∧ W.cell? ⟨g, off + j * 3 + 2, none⟩ = some (.int .i64 x.u) := by
  obtain ⟨g, off, hA, hg, hc⟩ := h.at_ hj
  have c0 := hc 0 (by decide)
  have c1 := hc 1 (by decide)
  have c2 := hc 2 (by decide)
  rw [← Nat.add_assoc] at c1 c2
  exact ⟨g, off, hA, c0, c1, c2⟩
theorem first_none {α : Type} {p : α → Bool} {l : List α} {m : Nat} (hm : l.length = m) (h : ∀ j y, j < m → l[j]? = some y → p y = false) : l.find? p = none := by
  refine List.find?_eq_none.2 fun x hx => ?_
  obtain ⟨j, hj⟩ := List.getElem?_of_mem hx
  have hlt : j < l.length := (List.getElem?_eq_some_iff.1 hj).1
  rw [h j x (by omega) hj]
  simp
theorem first_some {α : Type} {p : α → Bool} : ∀ {l : List α} {k : Nat} {x : α}, l[k]? = some x → p x = true → (∀ j y, j < k → l[j]? = some y → p y = false) → l.find? p = some x
  | [], _, _, h, _, _ => by simp at h
  | y :: l, 0, x, h, h1, _ => by
    simp at h; subst h
    rw [List.find?_cons_of_pos h1]
  | y :: l, k + 1, x, h, h1, hn => by
    rw [List.find?_cons_of_neg (by rw [hn 0 y (by omega) rfl]; simp)]
    exact first_some (by simpa using h) h1 (fun j z hj hz => hn (j + 1) z (by omega) (by simpa using hz))
theorem first_step {α : Type} {p : α → Bool} {l : List α} {k : Nat} {x : α} (h : ∀ j y, j < k → l[j]? = some y → p y = false) (hx : l[k]? = some x) (hp : p x = false) : ∀ j y, j < k + 1 → l[j]? = some y → p y = false := by
  intro j y hj hy
  rcases Nat.lt_or_ge j k with h' | h'
  · exact h j y h' hy
  · obtain rfl : j = k := by omega
    rw [hx] at hy; injection hy with hy; rw [← hy]; exact hp
theorem any_find {α : Type} {p : α → Bool} {l : List α} : l.any p = (l.find? p).isSome := by
  cases h : l.find? p with
  | none =>
    rw [List.find?_eq_none] at h
    simp only [Option.isSome_none, List.any_eq_false]
    exact h
  | some x => rw [Option.isSome_some]; exact List.any_eq_true.2 ⟨x, List.mem_of_find?_eq_some h, List.find?_some h⟩
theorem first_erase {α : Type} {p : α → Bool} : ∀ {l : List α} {k : Nat} {x : α}, l[k]? = some x → p x = true → (∀ j y, j < k → l[j]? = some y → p y = false) → l.eraseP p = l.take k ++ l.drop (k + 1)
  | [], _, _, h, _, _ => by simp at h
  | y :: l, 0, x, h, h1, _ => by
    simp at h; subst h
    rw [List.eraseP_cons_of_pos h1]; rfl
  | y :: l, k + 1, x, h, h1, hn => by
    rw [List.eraseP_cons_of_neg (by rw [hn 0 y (by omega) rfl]; simp)]
    rw [first_erase (by simpa using h) h1 (fun j z hj hz => hn (j + 1) z (by omega) (by simpa using hz))]
    rfl
def ruser (who : List PL) (a b : Int) : Int := match who.find? (fun x => decide (x.c = a ∧ x.s = b)) with | none => -1 | some x => x.u
def rhas (l : List PS) (a b : Int) : Bool := l.any fun x => decide (x.c = a ∧ x.s = b)
def rused (l : List PS) (s : Int) : Bool := l.any fun x => decide (x.s = s)
set_option maxHeartbeats 2000000 in
theorem ruser_any (B r : Nat) (S : List Nat) (R : RP) (a b : Int) (w : World) (h : Rb w B r S R) :
    Calls Try.prog 28 #[.pointer (some ⟨r, 0, none⟩), .int .i64 a, .int .i64 b] w fun e w' => e = .returned (.int .i64 (ruser R.who a b)) ∧ w = w' := by
  obtain ⟨A, m, c, A2, m2, c2, hR, rfl⟩ := h
  obtain ⟨q0, q1, q2⟩ := hR.cells
  have hm : m2 ≤ 1000 := by rw [hR.who.len]; exact hR.s2
  have hml := hR.who.rd.1
  have H := Lib.hid (And.intro hR.who.rd hml)
  clear hR hml
  go_enter Try.func28, Try.ntmps28
  go_wp2_with fail
  go_loopw [7] (fun kk wr => ∃ k : Nat, k ≤ m2 ∧ kk = .int .i64 (k : Int) ∧ (∀ j y, j < k → R.who[j]? = some y → (fun x => decide (x.c = a ∧ x.s = b)) y = false) ∧ w = wr) (fun kk _ => m2 - (intOf kk).toNat)
  case atStart => exact ⟨0, by omega, rfl, fun j y hj => by omega, rfl⟩
  case round =>
    obtain ⟨k, hk, rfl, hno, rfl⟩ := hrel
    by_cases hlt : k < m2
    · have hlti : (k : Int) < m2 := by omega
      have hltd : decide ((k : Int) < (m2 : Int)) = true := decide_eq_true hlti
      have hk0 : ¬ ((k : Int) < 0) := by omega
      obtain ⟨x, hx⟩ : ∃ x, R.who[k]? = some x := ⟨_, List.getElem?_eq_getElem (by rw [H.out.2]; exact hlt)⟩
      obtain ⟨g, off, hAe, cs⟩ := login_at H.out.1 hx
      rw [hAe] at q2
      obtain ⟨c0, c1, c2⟩ := cs
      have HQ := Lib.hid (And.intro hno hx)
      clear hno hx hAe
      by_cases h0 : x.c = a
      · have d0 : decide (x.c = a) = true := decide_eq_true h0
        by_cases h1 : x.s = b
        · have d1 : decide (x.s = b) = true := decide_eq_true h1
          have hq : (fun x => decide (x.c = a ∧ x.s = b)) x = true := decide_eq_true ⟨h0, h1⟩
          have hfs := first_some HQ.out.2 hq HQ.out.1
          have hfe := first_erase HQ.out.2 hq HQ.out.1
          have HF := Lib.hid hfs
          have HFe := Lib.hid hfe
          clear hfs hq hfe
          go_wp2_with fail
          go_ret
          exact ⟨by unfold ruser; rw [HF.out]; rfl, rfl⟩
        · have d1 : decide (x.s = b) = false := decide_eq_false h1
          have hq : (fun x => decide (x.c = a ∧ x.s = b)) x = false := decide_eq_false (fun e => h1 e.2)
          have hst := first_step HQ.out.1 HQ.out.2 hq
          have HS := Lib.hid hst
          clear hst hq
          go_wp2_with fail
          go_roundw
          case measure => simp [intOf]; omega
          exact ⟨k + 1, by omega, by simp, HS.out, by first | rfl | trivial⟩
      · have d0 : decide (x.c = a) = false := decide_eq_false h0
        have hq : (fun x => decide (x.c = a ∧ x.s = b)) x = false := decide_eq_false (fun e => h0 e.1)
        have hst := first_step HQ.out.1 HQ.out.2 hq
        have HS := Lib.hid hst
        clear hst hq
        go_wp2_with fail
        go_roundw
        case measure => simp [intOf]; omega
        exact ⟨k + 1, by omega, by simp, HS.out, by first | rfl | trivial⟩
    · obtain rfl : k = m2 := by omega
      have hlti : ¬ ((k : Int) < k) := by omega
      have hfn := first_none H.out.2 hno
      have HF := Lib.hid hfn
      clear hno hfn
      go_wp2_with fail
      go_ret
      exact ⟨by unfold ruser; rw [HF.out]; rfl, rfl⟩
set_option maxHeartbeats 2000000 in
theorem rhas_any (B r : Nat) (S : List Nat) (R : RP) (a b : Int) (w : World) (h : Rb w B r S R) :
    Calls Try.prog 33 #[.pointer (some ⟨r, 0, none⟩), .int .i64 a, .int .i64 b] w fun e w' => e = .returned (.bool (rhas R.l a b)) ∧ w = w' := by
  obtain ⟨A, m, c, A2, m2, c2, hR, rfl⟩ := h
  obtain ⟨q0, q1, q2⟩ := hR.cells
  have hm : m ≤ 1000 := by rw [hR.row.len]; exact hR.s1
  have hml := hR.row.rd.1
  have H := Lib.hid (And.intro hR.row.rd hml)
  clear hR hml
  go_enter Try.func33, Try.ntmps33
  go_wp2_with fail
  go_loopw [7] (fun kk wr => ∃ k : Nat, k ≤ m ∧ kk = .int .i64 (k : Int) ∧ (∀ j y, j < k → R.l[j]? = some y → (fun x => decide (x.c = a ∧ x.s = b)) y = false) ∧ w = wr) (fun kk _ => m - (intOf kk).toNat)
  case atStart => exact ⟨0, by omega, rfl, fun j y hj => by omega, rfl⟩
  case round =>
    obtain ⟨k, hk, rfl, hno, rfl⟩ := hrel
    by_cases hlt : k < m
    · have hlti : (k : Int) < m := by omega
      have hltd : decide ((k : Int) < (m : Int)) = true := decide_eq_true hlti
      have hk0 : ¬ ((k : Int) < 0) := by omega
      obtain ⟨x, hx⟩ : ∃ x, R.l[k]? = some x := ⟨_, List.getElem?_eq_getElem (by rw [H.out.2]; exact hlt)⟩
      obtain ⟨g, off, hAe, cs⟩ := rsess_at H.out.1 hx
      rw [hAe] at q0
      obtain ⟨c0, c1, c2, c3⟩ := cs
      have HQ := Lib.hid (And.intro hno hx)
      clear hno hx hAe
      by_cases h0 : x.c = a
      · have d0 : decide (x.c = a) = true := decide_eq_true h0
        by_cases h1 : x.s = b
        · have d1 : decide (x.s = b) = true := decide_eq_true h1
          have hq : (fun x => decide (x.c = a ∧ x.s = b)) x = true := decide_eq_true ⟨h0, h1⟩
          have hfs := first_some HQ.out.2 hq HQ.out.1
          have hfe := first_erase HQ.out.2 hq HQ.out.1
          have HF := Lib.hid hfs
          have HFe := Lib.hid hfe
          clear hfs hq hfe
          go_wp2_with fail
          go_ret
          exact ⟨by unfold rhas; rw [any_find, HF.out]; rfl, rfl⟩
        · have d1 : decide (x.s = b) = false := decide_eq_false h1
          have hq : (fun x => decide (x.c = a ∧ x.s = b)) x = false := decide_eq_false (fun e => h1 e.2)
          have hst := first_step HQ.out.1 HQ.out.2 hq
          have HS := Lib.hid hst
          clear hst hq
          go_wp2_with fail
          go_roundw
          case measure => simp [intOf]; omega
          exact ⟨k + 1, by omega, by simp, HS.out, by first | rfl | trivial⟩
      · have d0 : decide (x.c = a) = false := decide_eq_false h0
        have hq : (fun x => decide (x.c = a ∧ x.s = b)) x = false := decide_eq_false (fun e => h0 e.1)
        have hst := first_step HQ.out.1 HQ.out.2 hq
        have HS := Lib.hid hst
        clear hst hq
        go_wp2_with fail
        go_roundw
        case measure => simp [intOf]; omega
        exact ⟨k + 1, by omega, by simp, HS.out, by first | rfl | trivial⟩
    · obtain rfl : k = m := by omega
      have hlti : ¬ ((k : Int) < k) := by omega
      have hfn := first_none H.out.2 hno
      have HF := Lib.hid hfn
      clear hno hfn
      go_wp2_with fail
      go_ret
      exact ⟨by unfold rhas; rw [any_find, HF.out]; rfl, rfl⟩
set_option maxHeartbeats 2000000 in
theorem rused_any (B r : Nat) (S : List Nat) (R : RP) (s : Int) (w : World) (h : Rb w B r S R) :
    Calls Try.prog 39 #[.pointer (some ⟨r, 0, none⟩), .int .i64 s] w fun e w' => e = .returned (.bool (rused R.l s)) ∧ w = w' := by
  obtain ⟨A, m, c, A2, m2, c2, hR, rfl⟩ := h
  obtain ⟨q0, q1, q2⟩ := hR.cells
  have hm : m ≤ 1000 := by rw [hR.row.len]; exact hR.s1
  have hml := hR.row.rd.1
  have H := Lib.hid (And.intro hR.row.rd hml)
  clear hR hml
  go_enter Try.func39, Try.ntmps39
  go_wp2_with fail
  go_loopw [5] (fun kk wr => ∃ k : Nat, k ≤ m ∧ kk = .int .i64 (k : Int) ∧ (∀ j y, j < k → R.l[j]? = some y → (fun x => decide (x.s = s)) y = false) ∧ w = wr) (fun kk _ => m - (intOf kk).toNat)
  case atStart => exact ⟨0, by omega, rfl, fun j y hj => by omega, rfl⟩
  case round =>
    obtain ⟨k, hk, rfl, hno, rfl⟩ := hrel
    by_cases hlt : k < m
    · have hlti : (k : Int) < m := by omega
      have hltd : decide ((k : Int) < (m : Int)) = true := decide_eq_true hlti
      have hk0 : ¬ ((k : Int) < 0) := by omega
      obtain ⟨x, hx⟩ : ∃ x, R.l[k]? = some x := ⟨_, List.getElem?_eq_getElem (by rw [H.out.2]; exact hlt)⟩
      obtain ⟨g, off, hAe, cs⟩ := rsess_at H.out.1 hx
      rw [hAe] at q0
      obtain ⟨c0, c1, c2, c3⟩ := cs
      have HQ := Lib.hid (And.intro hno hx)
      clear hno hx hAe
      by_cases h0 : x.s = s
      · have d0 : decide (x.s = s) = true := decide_eq_true h0
        have hq : (fun x => decide (x.s = s)) x = true := decide_eq_true h0
        have hfs := first_some HQ.out.2 hq HQ.out.1
        have hfe := first_erase HQ.out.2 hq HQ.out.1
        have HF := Lib.hid hfs
        have HFe := Lib.hid hfe
        clear hfs hq hfe
        go_wp2_with fail
        go_ret
        exact ⟨by unfold rused; rw [any_find, HF.out]; rfl, rfl⟩
      · have d0 : decide (x.s = s) = false := decide_eq_false h0
        have hq : (fun x => decide (x.s = s)) x = false := decide_eq_false (fun e => h0 e)
        have hst := first_step HQ.out.1 HQ.out.2 hq
        have HS := Lib.hid hst
        clear hst hq
        go_wp2_with fail
        go_roundw
        case measure => simp [intOf]; omega
        exact ⟨k + 1, by omega, by simp, HS.out, by first | rfl | trivial⟩
    · obtain rfl : k = m := by omega
      have hlti : ¬ ((k : Int) < k) := by omega
      have hfn := first_none H.out.2 hno
      have HF := Lib.hid hfn
      clear hno hfn
      go_wp2_with fail
      go_ret
      exact ⟨by unfold rused; rw [any_find, HF.out]; rfl, rfl⟩
/-- Find's answer. -/
def RFind (l : List PS) (conn hh : Int) (v : Int) : Prop := (v = -1 ∧ l.find? (fun x => decide (x.h = hh ∧ x.c = conn)) = none) ∨ ∃ (k : Nat) (x : PS), v = (k : Int) ∧ l[k]? = some x ∧ l.find? (fun x => decide (x.h = hh ∧ x.c = conn)) = some x ∧ l.eraseP (fun x => decide (x.h = hh ∧ x.c = conn)) = l.take k ++ l.drop (k + 1)
set_option maxHeartbeats 2000000 in
theorem rfind_any (B r : Nat) (S : List Nat) (R : RP) (conn hh : Int) (w : World) (h : Rb w B r S R) :
    Calls Try.prog 32 #[.pointer (some ⟨r, 0, none⟩), .int .i64 conn, .int .i64 hh] w fun e w' => (∃ v, e = .returned (.int .i64 v) ∧ RFind R.l conn hh v) ∧ w = w' := by
  obtain ⟨A, m, c, A2, m2, c2, hR, rfl⟩ := h
  obtain ⟨q0, q1, q2⟩ := hR.cells
  have hm : m ≤ 1000 := by rw [hR.row.len]; exact hR.s1
  have hml := hR.row.rd.1
  have H := Lib.hid (And.intro hR.row.rd hml)
  clear hR hml
  go_enter Try.func32, Try.ntmps32
  go_wp2_with fail
  go_loopw [7] (fun kk wr => ∃ k : Nat, k ≤ m ∧ kk = .int .i64 (k : Int) ∧ (∀ j y, j < k → R.l[j]? = some y → (fun x => decide (x.h = hh ∧ x.c = conn)) y = false) ∧ w = wr) (fun kk _ => m - (intOf kk).toNat)
  case atStart => exact ⟨0, by omega, rfl, fun j y hj => by omega, rfl⟩
  case round =>
    obtain ⟨k, hk, rfl, hno, rfl⟩ := hrel
    by_cases hlt : k < m
    · have hlti : (k : Int) < m := by omega
      have hltd : decide ((k : Int) < (m : Int)) = true := decide_eq_true hlti
      have hk0 : ¬ ((k : Int) < 0) := by omega
      obtain ⟨x, hx⟩ : ∃ x, R.l[k]? = some x := ⟨_, List.getElem?_eq_getElem (by rw [H.out.2]; exact hlt)⟩
      obtain ⟨g, off, hAe, cs⟩ := rsess_at H.out.1 hx
      rw [hAe] at q0
      obtain ⟨c0, c1, c2, c3⟩ := cs
      have HQ := Lib.hid (And.intro hno hx)
      clear hno hx hAe
      by_cases h0 : x.h = hh
      · have d0 : decide (x.h = hh) = true := decide_eq_true h0
        by_cases h1 : x.c = conn
        · have d1 : decide (x.c = conn) = true := decide_eq_true h1
          have hq : (fun x => decide (x.h = hh ∧ x.c = conn)) x = true := decide_eq_true ⟨h0, h1⟩
          have hfs := first_some HQ.out.2 hq HQ.out.1
          have hfe := first_erase HQ.out.2 hq HQ.out.1
          have HF := Lib.hid hfs
          have HFe := Lib.hid hfe
          clear hfs hq hfe
          go_wp2_with fail
          go_ret
          exact ⟨⟨_, rfl, .inr ⟨k, x, rfl, HQ.out.2, HF.out, HFe.out⟩⟩, rfl⟩
        · have d1 : decide (x.c = conn) = false := decide_eq_false h1
          have hq : (fun x => decide (x.h = hh ∧ x.c = conn)) x = false := decide_eq_false (fun e => h1 e.2)
          have hst := first_step HQ.out.1 HQ.out.2 hq
          have HS := Lib.hid hst
          clear hst hq
          go_wp2_with fail
          go_roundw
          case measure => simp [intOf]; omega
          exact ⟨k + 1, by omega, by simp, HS.out, by first | rfl | trivial⟩
      · have d0 : decide (x.h = hh) = false := decide_eq_false h0
        have hq : (fun x => decide (x.h = hh ∧ x.c = conn)) x = false := decide_eq_false (fun e => h0 e.1)
        have hst := first_step HQ.out.1 HQ.out.2 hq
        have HS := Lib.hid hst
        clear hst hq
        go_wp2_with fail
        go_roundw
        case measure => simp [intOf]; omega
        exact ⟨k + 1, by omega, by simp, HS.out, by first | rfl | trivial⟩
    · obtain rfl : k = m := by omega
      have hlti : ¬ ((k : Int) < k) := by omega
      have hfn := first_none H.out.2 hno
      have HF := Lib.hid hfn
      clear hno hfn
      go_wp2_with fail
      go_ret
      exact ⟨⟨_, rfl, .inl ⟨rfl, HF.out⟩⟩, rfl⟩
end Go.Proofs.Ytnpncbpbeikcaaa
