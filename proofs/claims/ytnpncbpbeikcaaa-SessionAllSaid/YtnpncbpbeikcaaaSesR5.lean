/-
  The reference's sessions: MayLogin, Login.
-/
import Derived.Test.YtnpncbpbeikcaaaSesR4
namespace Go.Proofs.Ytnpncbpbeikcaaa
open Go.RowKit Go.Maps

def roP (a b : Int) (x : PS) : Bool := decide (x.c = a ∧ x.s = b) && !x.rw
def rro (l : List PS) (a b : Int) : Bool := l.any (roP a b)
def RP.mayW (R : RP) (a b user : Int) : Int :=
  if user ≠ 0 ∧ user ≠ 1 then 259 else if ruser R.who a b = user then 256 else if 0 ≤ ruser R.who a b then 260 else if user = 0 ∧ rro R.l a b = true then 183 else if rhas R.l a b = false then 179 else 0
set_option maxRecDepth 100000 in
set_option maxHeartbeats 4000000 in
theorem rmay_any (B r : Nat) (S : List Nat) (R : RP) (a b user : Int) (w : World) (h : Rb w B r S R) :
    Calls Try.prog 37 #[.pointer (some ⟨r, 0, none⟩), .int .i64 a, .int .i64 b, .int .i64 user] w fun e w' => e = .returned (.int .i64 (R.mayW a b user)) ∧ w = w' := by
  have hU := ruser_any B r S R a b w h
  have hH := rhas_any B r S R a b w h
  obtain ⟨u, hu⟩ : ∃ u, ruser R.who a b = u := ⟨_, rfl⟩
  obtain ⟨hs, hhs⟩ : ∃ hs, rhas R.l a b = hs := ⟨_, rfl⟩
  rw [hu] at hU
  rw [hhs] at hH
  obtain ⟨A, m, c, A2, m2, c2, hR, rfl⟩ := h
  obtain ⟨q0, q1, q2⟩ := hR.cells
  have hm : m ≤ 1000 := by rw [hR.row.len]; exact hR.s1
  have hml := hR.row.rd.1
  have HU := Lib.hid (And.intro hU (And.intro hH (And.intro hu hhs)))
  have H := Lib.hid (And.intro hR.row.rd hml)
  clear hU hH hu hhs hR hml
  by_cases c1 : user ≠ 0 ∧ user ≠ 1
  · have d0 : (user != 0) = true := by simp [c1.1]
    have d1 : (user != 1) = true := by simp [c1.2]
    have e0 := c1.1
    have e1 := c1.2
    go_enter Try.func37, Try.ntmps37
    go_wp2_with fail
    go_ret
    exact ⟨by rw [show R.mayW a b user = 259 by unfold RP.mayW; rw [if_pos c1]]; rfl, rfl⟩
  have c1' : user = 0 ∨ user = 1 := by omega
  rcases c1' with rfl | rfl
  · by_cases c2 : u = 0
    · subst c2
      go_enter Try.func37, Try.ntmps37
      go_wp2_with fail
      refine HU.out.1.mono ?_
      rintro e w1 ⟨rfl, rfl⟩
      go_wp2_with fail
      go_ret
      exact ⟨by rw [show R.mayW a b 0 = 256 by unfold RP.mayW; rw [if_neg c1, if_pos HU.out.2.2.1]]; rfl, rfl⟩
    have d2 : decide (u = 0) = false := decide_eq_false c2
    by_cases c3 : 0 ≤ u
    · have d3 : decide (0 ≤ u) = true := decide_eq_true c3
      go_enter Try.func37, Try.ntmps37
      go_wp2_with fail
      refine HU.out.1.mono ?_
      rintro e w1 ⟨rfl, rfl⟩
      go_wp2_with fail
      go_ret
      exact ⟨by rw [show R.mayW a b 0 = 260 by unfold RP.mayW; rw [if_neg c1, if_neg (by rw [HU.out.2.2.1]; exact c2), if_pos (by rw [HU.out.2.2.1]; exact c3)]]; rfl, rfl⟩
    have d3 : decide (0 ≤ u) = false := decide_eq_false c3
    go_enter Try.func37, Try.ntmps37
    go_wp2_with fail
    refine HU.out.1.mono ?_
    rintro e w1 ⟨rfl, rfl⟩
    go_wp2_with fail
    go_loopw [10] (fun kk wr => ∃ k : Nat, k ≤ m ∧ kk = .int .i64 (k : Int) ∧ (∀ j y, j < k → R.l[j]? = some y → roP a b y = false) ∧ w = wr) (fun kk _ => m - (intOf kk).toNat)
    case atStart => exact ⟨0, by omega, rfl, fun j y hj => by omega, rfl⟩
    case round =>
      obtain ⟨k, hk, rfl, hno, rfl⟩ := hrel
      by_cases hlt : k < m
      · have hlti : (k : Int) < m := by omega
        have hltd : decide ((k : Int) < (m : Int)) = true := decide_eq_true hlti
        have hk0 : ¬ ((k : Int) < 0) := by omega
        obtain ⟨x, hx⟩ : ∃ x, R.l[k]? = some x := ⟨_, List.getElem?_eq_getElem (by rw [H.out.2]; exact hlt)⟩
        obtain ⟨g, off, hAe, z0, z1, z2, z3⟩ := rsess_at H.out.1 hx
        rw [hAe] at q0
        obtain ⟨bw, hbw⟩ : ∃ bw, x.rw = bw := ⟨_, rfl⟩
        rw [hbw] at z3
        have HQ := Lib.hid (And.intro hno (And.intro hx hbw))
        clear hno hx hAe hbw
        by_cases h0 : x.c = a
        · have e0 : decide (x.c = a) = true := decide_eq_true h0
          by_cases h1 : x.s = b
          · have e1 : decide (x.s = b) = true := decide_eq_true h1
            cases bw with
            | true =>
              have hq : roP a b x = false := by simp [roP, h0, h1, HQ.out.2.2]
              have hst := first_step HQ.out.1 HQ.out.2.1 hq
              have HS := Lib.hid hst
              clear hst hq
              go_wp2_with fail
              go_roundw
              case measure => simp [intOf]; omega
              first | exact ⟨k + 1, by omega, by simp, HS.out, by first | rfl | trivial⟩ | exact ⟨k + 1, by omega, by simp, HS.out⟩
            | false =>
              have hq : roP a b x = true := by simp [roP, h0, h1, HQ.out.2.2]
              have hany : rro R.l a b = true := List.any_eq_true.2 ⟨x, List.mem_of_getElem? HQ.out.2.1, hq⟩
              have HAn := Lib.hid hany
              clear hany hq
              go_wp2_with fail
              go_ret
              exact ⟨by rw [show R.mayW a b 0 = 183 by unfold RP.mayW; rw [if_neg c1, if_neg (by rw [HU.out.2.2.1]; exact c2), if_neg (by rw [HU.out.2.2.1]; omega), if_pos ⟨rfl, HAn.out⟩]]; rfl, rfl⟩
          · have e1 : decide (x.s = b) = false := decide_eq_false h1
            have hq : roP a b x = false := by simp [roP, h1]
            have hst := first_step HQ.out.1 HQ.out.2.1 hq
            have HS := Lib.hid hst
            clear hst hq
            go_wp2_with fail
            go_roundw
            case measure => simp [intOf]; omega
            first | exact ⟨k + 1, by omega, by simp, HS.out, by first | rfl | trivial⟩ | exact ⟨k + 1, by omega, by simp, HS.out⟩
        · have e0 : decide (x.c = a) = false := decide_eq_false h0
          have hq : roP a b x = false := by simp [roP, h0]
          have hst := first_step HQ.out.1 HQ.out.2.1 hq
          have HS := Lib.hid hst
          clear hst hq
          go_wp2_with fail
          go_roundw
          case measure => simp [intOf]; omega
          first | exact ⟨k + 1, by omega, by simp, HS.out, by first | rfl | trivial⟩ | exact ⟨k + 1, by omega, by simp, HS.out⟩
      · obtain rfl : k = m := by omega
        have hlti : ¬ ((k : Int) < k) := by omega
        have hany : rro R.l a b = false := by unfold rro; rw [any_find, first_none H.out.2 hno]; rfl
        have HAn := Lib.hid hany
        clear hno hany
        cases hs with
        | true =>
          go_wp2_with fail
          refine HU.out.2.1.mono ?_
          rintro e w2 ⟨rfl, rfl⟩
          go_wp2_with fail
          go_ret
          exact ⟨by rw [show R.mayW a b 0 = 0 by unfold RP.mayW; rw [if_neg c1, if_neg (by rw [HU.out.2.2.1]; exact c2), if_neg (by rw [HU.out.2.2.1]; omega), if_neg (by rw [HAn.out]; simp), if_neg (by rw [HU.out.2.2.2]; simp)]]; rfl, rfl⟩
        | false =>
          go_wp2_with fail
          refine HU.out.2.1.mono ?_
          rintro e w2 ⟨rfl, rfl⟩
          go_wp2_with fail
          go_ret
          exact ⟨by rw [show R.mayW a b 0 = 179 by unfold RP.mayW; rw [if_neg c1, if_neg (by rw [HU.out.2.2.1]; exact c2), if_neg (by rw [HU.out.2.2.1]; omega), if_neg (by rw [HAn.out]; simp), if_pos HU.out.2.2.2]]; rfl, rfl⟩
  · by_cases c2 : u = 1
    · subst c2
      go_enter Try.func37, Try.ntmps37
      go_wp2_with fail
      refine HU.out.1.mono ?_
      rintro e w1 ⟨rfl, rfl⟩
      go_wp2_with fail
      go_ret
      exact ⟨by rw [show R.mayW a b 1 = 256 by unfold RP.mayW; rw [if_neg c1, if_pos HU.out.2.2.1]]; rfl, rfl⟩
    have d2 : decide (u = 1) = false := decide_eq_false c2
    by_cases c3 : 0 ≤ u
    · have d3 : decide (0 ≤ u) = true := decide_eq_true c3
      go_enter Try.func37, Try.ntmps37
      go_wp2_with fail
      refine HU.out.1.mono ?_
      rintro e w1 ⟨rfl, rfl⟩
      go_wp2_with fail
      go_ret
      exact ⟨by rw [show R.mayW a b 1 = 260 by unfold RP.mayW; rw [if_neg c1, if_neg (by rw [HU.out.2.2.1]; exact c2), if_pos (by rw [HU.out.2.2.1]; exact c3)]]; rfl, rfl⟩
    have d3 : decide (0 ≤ u) = false := decide_eq_false c3
    go_enter Try.func37, Try.ntmps37
    go_wp2_with fail
    refine HU.out.1.mono ?_
    rintro e w1 ⟨rfl, rfl⟩
    go_wp2_with fail
    go_loopw [10] (fun kk wr => kk = .int .i64 0 ∧ w = wr) (fun _ _ => 0)
    case atStart => exact ⟨rfl, rfl⟩
    case round =>
      obtain ⟨rfl, rfl⟩ := hrel
      by_cases hlt : 0 < m
      · have hltd : decide ((0 : Int) < (m : Int)) = true := decide_eq_true (by omega)
        cases hs with
        | true =>
          go_wp2_with fail
          refine HU.out.2.1.mono ?_
          rintro e w2 ⟨rfl, rfl⟩
          go_wp2_with fail
          go_ret
          exact ⟨by rw [show R.mayW a b 1 = 0 by unfold RP.mayW; rw [if_neg c1, if_neg (by rw [HU.out.2.2.1]; exact c2), if_neg (by rw [HU.out.2.2.1]; omega), if_neg (by simp), if_neg (by rw [HU.out.2.2.2]; simp)]]; rfl, rfl⟩
        | false =>
          go_wp2_with fail
          refine HU.out.2.1.mono ?_
          rintro e w2 ⟨rfl, rfl⟩
          go_wp2_with fail
          go_ret
          exact ⟨by rw [show R.mayW a b 1 = 179 by unfold RP.mayW; rw [if_neg c1, if_neg (by rw [HU.out.2.2.1]; exact c2), if_neg (by rw [HU.out.2.2.1]; omega), if_neg (by simp), if_pos HU.out.2.2.2]]; rfl, rfl⟩
      · have hltd : decide ((0 : Int) < (m : Int)) = false := decide_eq_false (by omega)
        have hm0 : m = 0 := by omega
        have hHm := Lib.hid hm0
        clear hm0
        cases hs with
        | true =>
          go_wp2_with fail
          refine HU.out.2.1.mono ?_
          rintro e w2 ⟨rfl, rfl⟩
          go_wp2_with fail
          go_ret
          exact ⟨by rw [show R.mayW a b 1 = 0 by unfold RP.mayW; rw [if_neg c1, if_neg (by rw [HU.out.2.2.1]; exact c2), if_neg (by rw [HU.out.2.2.1]; omega), if_neg (by simp), if_neg (by rw [HU.out.2.2.2]; simp)]]; rfl, rfl⟩
        | false =>
          go_wp2_with fail
          refine HU.out.2.1.mono ?_
          rintro e w2 ⟨rfl, rfl⟩
          go_wp2_with fail
          go_ret
          exact ⟨by rw [show R.mayW a b 1 = 179 by unfold RP.mayW; rw [if_neg c1, if_neg (by rw [HU.out.2.2.1]; exact c2), if_neg (by rw [HU.out.2.2.1]; omega), if_neg (by simp), if_pos HU.out.2.2.2]]; rfl, rfl⟩
def RP.loginW (R : RP) (a b user : Int) : RP := if R.mayW a b user = 0 then ⟨R.l, R.next, R.who ++ [⟨a, b, user⟩]⟩ else R
set_option maxHeartbeats 2000000 in
theorem rlogin_any (B r : Nat) (S : List Nat) (R : RP) (a b user : Int) (w : World) (h : Rb w B r S R) (hn : R.who.length ≤ 900) :
    Calls Try.prog 17 #[.pointer (some ⟨r, 0, none⟩), .int .i64 a, .int .i64 b, .int .i64 user] w (RDid B r S w (.int .i64 (R.mayW a b user)) (R.loginW a b user)) := by
  obtain ⟨rv, hrv⟩ : ∃ rv, R.mayW a b user = rv := ⟨_, rfl⟩
  have hM := rmay_any B r S R a b user w h
  rw [hrv] at hM
  rw [hrv]
  have h0 := h
  obtain ⟨A, m, c, A2, m2, c2, hR, hS⟩ := h
  obtain ⟨q0, q1, q2⟩ := hR.cells
  have H := Lib.hid (And.intro hM (And.intro hrv (And.intro h0 (And.intro hR hS))))
  clear hM hrv h0 hR hS
  by_cases c0 : rv = 0
  · subst c0
    have hal : Below w.heap.size w (w.alloc (.cells #[.int .i64 a, .int .i64 b, .int .i64 user] 69)) := (Below.refl _ _).alloc (Nat.le_refl _) _
    have HAl := Lib.hid hal
    clear hal
    go_enter Try.func17, Try.ntmps17
    go_wp2_with fail
    refine H.out.1.mono ?_
    rintro e w1 ⟨rfl, rfl⟩
    go_wp2_with (at_builtin; go_must (refine wp_appE Try.eL (.tmp 21) (.tmp 26) B (.slice A2 m2 c2) R.who (H.out.2.2.2.1.who.below HAl.out) (by have := HAl.out.size; have := H.out.2.2.2.1.blk.lt; have := H.out.2.2.2.1.lr; omega) (some ⟨w.heap.size, 0, none⟩) 1 1 [⟨a, b, user⟩] (Blk.rdC Try.eL (Blk.new w 69 _) rfl) (fun h => by cases h) (by simp; omega) rfl rfl rfl rfl ?_); intro A7 n7 c7 w7 hG; have H7 := Lib.hid hG; clear hG; have b7 := (H.out.2.2.2.1.blk.below HAl.out).keep (H7.out.grown.block _ (H.out.2.2.2.1.blk.below HAl.out).lt (fun e => (H.out.2.2.2.1.who.below HAl.out).ne (H.out.2.2.2.1.blk.below HAl.out) (by decide) e.symm)); have f2 := b7.frozen 2; have d2 := b7.cell 2; simp only [List.getElem?_toArray, List.getElem?_cons_succ, List.getElem?_cons_zero] at d2; have HB7 := Lib.hid b7; clear b7)
    go_ret
    obtain ⟨wF, hwF⟩ : ∃ wF, w7.setCell ⟨r, 2, none⟩ (.slice A7 n7 c7) = wF := ⟨_, rfl⟩
    have hT : Turn [r] w7 wF := by rw [← hwF]; exact (Turn.refl _ _).setCell (.inl (by simp)) _
    have bF : Blk wF r 30 #[.slice A m c, .int .i64 R.next, .slice A7 n7 c7] := by
      rw [← hwF]
      have := HB7.out.set_ 2 (.slice A7 n7 c7)
      simpa using this
    try rw [hwF]
    have hr : R.loginW a b user = ⟨R.l, R.next, R.who ++ [⟨a, b, user⟩]⟩ := by unfold RP.loginW; rw [if_pos H.out.2.1]
    rw [hr]
    have hRow7 : OwnE Try.eR w7 B (.slice A m c) R.l := (H.out.2.2.2.1.row.below HAl.out).keep (fun g hg => H7.out.grown.block g ((H.out.2.2.2.1.row.below HAl.out).lt hg).2 (fun e => by
      obtain ⟨cs, hcs⟩ := (H.out.2.2.2.1.row.below HAl.out).blk hg
      exact (H.out.2.2.2.1.who.below HAl.out).ne hcs (by decide) e.symm))
    have hT7 : Turn S w w7 := (Turn.of_below S HAl.out).grown H7.out.grown (fun k hk => .inl (by rw [H.out.2.2.2.2]; unfold rblocks; simp [hk]))
    refine ⟨rfl, rblocks A m c A7 n7 c7 r, ⟨A, m, c, A7, n7, c7, ⟨bF, hRow7.turn hT (fun g hg hm => by simp at hm; subst hm; exact hRow7.ne HB7.out (by decide) hg), H7.out.own.turn hT (fun g hg hm => by simp at hm; subst hm; exact H7.out.own.ne HB7.out (by decide) hg), H.out.2.2.2.1.lr, H.out.2.2.2.1.s1, by simp; omega⟩, rfl⟩, hT7.trans hT (fun x hx => .inl (by simp at hx; subst hx; rw [H.out.2.2.2.2]; unfold rblocks; simp)), fun x hx => ?_⟩
    rw [H.out.2.2.2.2]
    unfold rblocks at hx ⊢
    rcases List.mem_cons.1 hx with e | e
    · left; rw [e]; simp
    · rcases List.mem_append.1 e with e | e
      · left; simp at e; simp [e]
      · rcases H7.out.at_ with e' | e'
        · left; rw [e'] at e; simp at e; simp [e]
        · right; rw [e'] at e; simp at e; omega
  · have hd : (rv == 0) = false := by simp [c0]
    have hd2 : decide (rv = 0) = false := decide_eq_false c0
    go_enter Try.func17, Try.ntmps17
    go_wp2_with fail
    refine H.out.1.mono ?_
    rintro e w1 ⟨rfl, rfl⟩
    go_wp2_with fail
    go_ret
    have hr : R.loginW a b user = R := by unfold RP.loginW; rw [if_neg (by rw [H.out.2.1]; exact c0)]
    rw [hr]
    exact RDid.same H.out.2.2.1 (Below.refl _ _)
end Go.Proofs.Ytnpncbpbeikcaaa
