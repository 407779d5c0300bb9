/-
  The reference's sessions: Out, Close, State, Logout.
-/
import Derived.Test.YtnpncbpbeikcaaaSesR2
import Derived.Test.YtnpncbpbeikcaaaSliceE
namespace Go.Proofs.Ytnpncbpbeikcaaa
open Go.RowKit Go.Maps

def isAt (a b : Int) (x : PL) : Bool := decide (x.c = a ∧ x.s = b)
def RP.out (R : RP) (a b : Int) : RP := ⟨R.l, R.next, R.who.filter fun x => !isAt a b x⟩
theorem pfilter_t (l : List PL) (p : PL → Bool) (k : Nat) (x : PL) (h : l[k]? = some x) (hp : p x = true) : (l.take (k + 1)).filter p = (l.take k).filter p ++ [x] := by
  rw [List.take_add_one, h]; simp [hp]
theorem pfilter_f (l : List PL) (p : PL → Bool) (k : Nat) (x : PL) (h : l[k]? = some x) (hp : p x = false) : (l.take (k + 1)).filter p = (l.take k).filter p := by
  rw [List.take_add_one, h]; simp [hp]
theorem pfilter_len (l : List PL) (p : PL → Bool) (k : Nat) : ((l.take k).filter p).length ≤ k := Nat.le_trans (List.length_filter_le _ _) (List.length_take_le _ _)
set_option maxRecDepth 100000 in
set_option maxHeartbeats 4000000 in
theorem rout_any (B r : Nat) (S : List Nat) (R : RP) (a b : Int) (w : World) (h : Rb w B r S R) :
    Calls Try.prog 34 #[.pointer (some ⟨r, 0, none⟩), .int .i64 a, .int .i64 b] w (RDid B r S w (.tuple #[]) (R.out a b)) := by
  obtain ⟨A, m, c, A2, m2, c2, hR, hS⟩ := h
  obtain ⟨q0, q1, q2⟩ := hR.cells
  have hm : m2 ≤ 1000 := by rw [hR.who.len]; exact hR.s2
  have hml := hR.who.rd.1
  have H := Lib.hid (And.intro hR (And.intro hS hml))
  clear hR hS hml
  obtain ⟨P, hP⟩ : ∃ P, (fun x => !isAt a b x) = P := ⟨_, rfl⟩
  have HP := Lib.hid hP
  clear hP
  go_enter Try.func34, Try.ntmps34
  go_wp2_with fail
  go_loopw [6, 7] (fun v kk wr => ∃ k : Nat, k ≤ m2 ∧ kk = .int .i64 (k : Int) ∧ ∃ A3 n3 c3, v = .slice A3 n3 c3 ∧ OwnE Try.eL wr w.heap.size (.slice A3 n3 c3) ((R.who.take k).filter P) ∧ Below w.heap.size w wr) (fun _ kk _ => m2 - (intOf kk).toNat)
  case atStart => exact ⟨0, by omega, rfl, none, 0, 0, rfl, OwnE.nil _ _, Below.refl _ _⟩
  case round =>
    obtain ⟨k, hk, rfl, A3, n3, c3, rfl, hO, hB⟩ := hrel
    obtain ⟨q0, q1, q2⟩ := (H.out.1.below hB).cells
    by_cases hlt : k < m2
    · have hlti : (k : Int) < m2 := by omega
      have hltd : decide ((k : Int) < (m2 : Int)) = true := decide_eq_true hlti
      have hk0 : ¬ ((k : Int) < 0) := by omega
      obtain ⟨x, hx⟩ : ∃ x, R.who[k]? = some x := ⟨_, List.getElem?_eq_getElem (by rw [H.out.2.2]; exact hlt)⟩
      obtain ⟨g, off, hAe, e0, e1, e2⟩ := login_at (H.out.1.who.rd.below hB) hx
      rw [hAe] at q2
      have HQ := Lib.hid (And.intro hO (And.intro hB hx))
      clear hO hB hx hAe
      by_cases h0 : x.c = a
      · have d0 : decide (x.c = a) = true := decide_eq_true h0
        by_cases h1 : x.s = b
        · have hq : P x = false := by rw [← HP.out]; simp [isAt, h0, h1]
          have hst := pfilter_f _ _ _ _ HQ.out.2.2 hq
          have HS := Lib.hid hst
          clear hst hq
          go_wp2_with fail
          go_roundw
          case measure => simp [intOf]; omega
          exact ⟨k + 1, by omega, by simp, A3, n3, c3, rfl, by rw [HS.out]; exact HQ.out.1, HQ.out.2.1⟩
        · rw [h0] at e0
          have h1' : (x.s != b) = true := by simp [h1]
          have hq : P x = true := by rw [← HP.out]; simp [isAt, h0, h1]
          have hal : Below wr.heap.size wr (wr.alloc (.cells #[.int .i64 a, .int .i64 x.s, .int .i64 x.u] 69)) := (Below.refl _ _).alloc (Nat.le_refl _) _
          have hsrc : RdC Try.eL (wr.alloc (.cells #[.int .i64 a, .int .i64 x.s, .int .i64 x.u] 69)) (some ⟨wr.heap.size, 0, none⟩) 1 [x] := Blk.rdC Try.eL (Blk.new wr 69 #[.int .i64 a, .int .i64 x.s, .int .i64 x.u]) (by simp [Try.eL, *])
          have HAl := Lib.hid (And.intro hal (And.intro hsrc hq))
          clear hal hsrc hq
          go_wp2_with (at_builtin; go_must (refine wp_appE Try.eL (.tmp 39) (.tmp 47) w.heap.size (.slice A3 n3 c3) _ (HQ.out.1.below HAl.out.1) (by have := HQ.out.2.1.size; have := HAl.out.1.size; omega) (some ⟨wr.heap.size, 0, none⟩) 1 1 [x] HAl.out.2.1 (fun h => by cases h) (by have := pfilter_len R.who P k; simp; omega) rfl rfl rfl rfl ?_); intro A7 n7 c7 w7 hG; have H7 := Lib.hid hG; clear hG)
          go_roundw
          case measure => simp [intOf]; omega
          exact ⟨k + 1, by omega, by simp, A7, n7, c7, rfl, by rw [pfilter_t _ _ _ _ HQ.out.2.2 HAl.out.2.2]; exact H7.out.own, (HQ.out.2.1.trans (HAl.out.1.mono HQ.out.2.1.size)).trans H7.out.below⟩
      · have h0' : (x.c != a) = true := by simp [h0]
        have hq : P x = true := by rw [← HP.out]; simp [isAt, h0]
        have hal : Below wr.heap.size wr (wr.alloc (.cells #[.int .i64 x.c, .int .i64 x.s, .int .i64 x.u] 69)) := (Below.refl _ _).alloc (Nat.le_refl _) _
        have hsrc : RdC Try.eL (wr.alloc (.cells #[.int .i64 x.c, .int .i64 x.s, .int .i64 x.u] 69)) (some ⟨wr.heap.size, 0, none⟩) 1 [x] := Blk.rdC Try.eL (Blk.new wr 69 #[.int .i64 x.c, .int .i64 x.s, .int .i64 x.u]) (by simp [Try.eL, *])
        have HAl := Lib.hid (And.intro hal (And.intro hsrc hq))
        clear hal hsrc hq
        go_wp2_with (at_builtin; go_must (refine wp_appE Try.eL (.tmp 39) (.tmp 47) w.heap.size (.slice A3 n3 c3) _ (HQ.out.1.below HAl.out.1) (by have := HQ.out.2.1.size; have := HAl.out.1.size; omega) (some ⟨wr.heap.size, 0, none⟩) 1 1 [x] HAl.out.2.1 (fun h => by cases h) (by have := pfilter_len R.who P k; simp; omega) rfl rfl rfl rfl ?_); intro A7 n7 c7 w7 hG; have H7 := Lib.hid hG; clear hG)
        go_roundw
        case measure => simp [intOf]; omega
        exact ⟨k + 1, by omega, by simp, A7, n7, c7, rfl, by rw [pfilter_t _ _ _ _ HQ.out.2.2 HAl.out.2.2]; exact H7.out.own, (HQ.out.2.1.trans (HAl.out.1.mono HQ.out.2.1.size)).trans H7.out.below⟩
    · obtain rfl : k = m2 := by omega
      have hlti : ¬ ((k : Int) < k) := by omega
      rw [show R.who.take k = R.who from List.take_of_length_le (by rw [H.out.2.2]; exact Nat.le_refl _)] at hO
      have f2 := (H.out.1.below hB).blk.frozen 2
      have HQ := Lib.hid (And.intro hO hB)
      clear hO hB
      go_wp2_with fail
      go_end0
      have hRr := H.out.1.below HQ.out.2
      obtain ⟨wF, hwF⟩ : ∃ wF, wr.setCell ⟨r, 2, none⟩ (.slice A3 n3 c3) = wF := ⟨_, rfl⟩
      have hT : Turn [r] wr wF := by rw [← hwF]; exact (Turn.refl _ _).setCell (.inl (by simp)) _
      have bF : Blk wF r 30 #[.slice A m c, .int .i64 R.next, .slice A3 n3 c3] := by
        rw [← hwF]
        have := hRr.blk.set_ 2 (.slice A3 n3 c3)
        simpa using this
      try rw [hwF]
      have hwB : B ≤ w.heap.size := by have := H.out.1.lr; have := H.out.1.blk.lt; omega
      refine ⟨rfl, rblocks A m c A3 n3 c3 r, ⟨A, m, c, A3, n3, c3, ⟨bF, hRr.row.turn hT (fun g hg hm => by simp at hm; subst hm; exact hRr.row.ne hRr.blk (by decide) hg), ?_, H.out.1.lr, H.out.1.s1, ?_⟩, rfl⟩, ?_, fun x hx => ?_⟩
      · show OwnE Try.eL wF B (.slice A3 n3 c3) (R.who.filter _)
        rw [HP.out]
        exact (HQ.out.1.turn hT (fun g hg hm => by simp at hm; subst hm; exact HQ.out.1.ne hRr.blk (by decide) hg)).mono hwB
      · exact Nat.le_trans (List.length_filter_le _ _) H.out.1.s2
      · exact (Turn.of_below S HQ.out.2).trans hT (fun x hx => .inl (by simp at hx; subst hx; rw [H.out.2.1]; unfold rblocks; simp))
      · rw [H.out.2.1]
        unfold rblocks at hx ⊢
        rcases List.mem_cons.1 hx with e | e
        · left; rw [e]; simp
        · rcases List.mem_append.1 e with e | e
          · left; simp at e; simp [e]
          · right; exact (HQ.out.1.lt (g := x) (by simpa using e)).1
def RP.logoutW (R : RP) (a b : Int) : Int × RP := if ruser R.who a b < 0 then (257, R) else (0, R.out a b)
set_option maxHeartbeats 1000000 in
theorem rlogout_any (B r : Nat) (S : List Nat) (R : RP) (a b : Int) (w : World) (h : Rb w B r S R) :
    Calls Try.prog 19 #[.pointer (some ⟨r, 0, none⟩), .int .i64 a, .int .i64 b] w (RDid B r S w (.int .i64 (R.logoutW a b).1) (R.logoutW a b).2) := by
  have hu := ruser_any B r S R a b w h
  obtain ⟨u, hu'⟩ : ∃ u, ruser R.who a b = u := ⟨_, rfl⟩
  rw [hu'] at hu
  have H := Lib.hid (And.intro hu (And.intro hu' h))
  clear hu hu' h
  by_cases h0 : u < 0
  · have d0 : decide (u < 0) = true := decide_eq_true h0
    go_enter Try.func19, Try.ntmps19
    go_wp2_with fail
    refine H.out.1.mono ?_
    rintro e w1 ⟨rfl, rfl⟩
    go_wp2_with fail
    go_ret
    have hr : R.logoutW a b = (257, R) := by unfold RP.logoutW; rw [H.out.2.1, if_pos h0]
    rw [hr]
    exact RDid.same H.out.2.2 (Below.refl _ _)
  · have d0 : decide (u < 0) = false := decide_eq_false h0
    go_enter Try.func19, Try.ntmps19
    go_wp2_with fail
    refine H.out.1.mono ?_
    rintro e w1 ⟨rfl, rfl⟩
    go_wp2_with fail
    refine (rout_any B r S R a b w H.out.2.2).mono ?_
    rintro e w2 ⟨rfl, hd⟩
    have HD := Lib.hid hd
    clear hd
    go_wp2_with fail
    go_ret
    have hr : R.logoutW a b = (0, R.out a b) := by unfold RP.logoutW; rw [H.out.2.1, if_neg (by omega)]
    rw [hr]
    exact ⟨rfl, HD.out⟩
end Go.Proofs.Ytnpncbpbeikcaaa
