/-
  Modes: the key wrap: Wrap.
-/
import Derived.Test.YtiocmebcbhbcmaaZzMo20
import Derived.Lib.SlBytesConst
namespace Go.Proofs.Ytiocmebcbhbcmaa
set_option maxRecDepth 100000
open Go.RowKit

def sgn : List UInt8 := [166, 166, 166, 166, 166, 166, 166, 166]
def wrI (n s : Nat) : Nat := 8 * (s % n + 1)
/-- One step of the wrap, the (s+1)th. -/
def wrX (E : List UInt8 → List UInt8) (n s : Nat) (r : List UInt8) : List UInt8 := E (r.take 8 ++ (r.drop (wrI n s)).take 8)
def wrY (E : List UInt8 → List UInt8) (n s : Nat) (r : List UInt8) : List UInt8 := xorL ((wrX E n s r).take 8) (bytes64 (UInt64.ofNat (s + 1)))
def wrF (E : List UInt8 → List UInt8) (n s : Nat) (r : List UInt8) : List UInt8 := splice (splice r 0 (wrY E n s r)) (wrI n s) ((wrX E n s r).drop 8)
def wrN (E : List UInt8 → List UInt8) (n : Nat) : Nat → List UInt8 → List UInt8
  | 0, r => r
  | s + 1, r => wrF E n s (wrN E n s r)
def wrapF (E : List UInt8 → List UInt8) (b : List UInt8) : List UInt8 := wrN E (b.length / 8) (6 * (b.length / 8)) (sgn ++ b)
def wrapLen (m : Nat) : Prop := 16 ≤ m ∧ m ≤ 65528 ∧ m % 8 = 0
instance (m : Nat) : Decidable (wrapLen m) := by unfold wrapLen; infer_instance
theorem wrI_le (n s : Nat) (hn : 0 < n) : wrI n s + 8 ≤ 8 * n + 8 := by
  unfold wrI
  have := Nat.mod_lt s hn
  omega
theorem bytes64_len (x : UInt64) : (bytes64 x).length = 8 := rfl
/-- What a call that gives bytes and a number leaves. -/
def RvRes (w : World) (r : List UInt8 × Int) (e : Ending) (w' : World) : Prop := ∃ A n c, e = .returned (.tuple #[.slice A n c, .int .i64 r.2]) ∧ Rd w' A n c r.1 ∧ Old w w'
theorem RvRes.nil (w w' : World) (rv : Int) (h : Old w w') : RvRes w ([], rv) (.returned (.tuple #[.slice none 0 0, .int .i64 rv])) w' := ⟨none, 0, 0, rfl, Rd.nil _, h⟩
theorem wrap_nokey (A C : Option Addr) (m c n cb : Nat) (w : World) (h : m ≠ 16 ∧ m ≠ 24 ∧ m ≠ 32) :
    Calls Try.prog 26 #[.slice A m c, .slice C n cb] w (RvRes w ([], 98)) := by
  have hc := new_no A m c w h
  clear h
  go_enter Try.func26, Try.ntmps26
  go_wp2_with fail
  refine hc.mono ?_
  rintro e w1 ⟨rfl, hw⟩
  subst hw
  go_wp2_with fail
  refine bodyPost_ret (results_tmp2 rfl _ _ _) rfl ?_
  exact RvRes.nil _ _ _ (Old.refl _)
theorem wrap_nolen (A C : Option Addr) (mk ck n cb : Nat) (k : List UInt8) (w : World) (hk : Rd w A mk ck k) (hko : keyOk k) (hl : ¬ wrapLen n) :
    Calls Try.prog 26 #[.slice A mk ck, .slice C n cb] w (RvRes w ([], 33)) := by
  have hcall := new_any A mk ck k w hk hko
  have HH := Lib.hid hcall
  clear hcall hk hko
  by_cases h1 : n < 16
  · have i1 : (n : Int) < 16 := by omega
    have d1 : decide ((n : Int) < 16) = true := decide_eq_true i1
    clear hl
    go_enter Try.func26, Try.ntmps26
    go_wp2_with fail
    refine HH.out.mono ?_
    rintro e w1 ⟨c, kb, R, cq, rfl, _, hB⟩
    have H1 := Lib.hid hB
    clear hB
    go_wp2_with fail
    refine bodyPost_ret (results_tmp2 rfl _ _ _) rfl ?_
    exact RvRes.nil _ _ _ H1.out
  · have i1 : ¬ (n : Int) < 16 := by omega
    have d1 : decide ((n : Int) < 16) = false := decide_eq_false i1
    by_cases h2 : 65528 < n
    · have i2 : (n : Int) > 65528 := by omega
      have d2 : decide ((n : Int) > 65528) = true := decide_eq_true i2
      clear hl
      go_enter Try.func26, Try.ntmps26
      go_wp2_with fail
      refine HH.out.mono ?_
      rintro e w1 ⟨c, kb, R, cq, rfl, _, hB⟩
      have H1 := Lib.hid hB
      clear hB
      go_wp2_with fail
      refine bodyPost_ret (results_tmp2 rfl _ _ _) rfl ?_
      exact RvRes.nil _ _ _ H1.out
    · have i2 : ¬ (n : Int) > 65528 := by omega
      have d2 : decide ((n : Int) > 65528) = false := decide_eq_false i2
      have i3 : (n : Int) % 8 > 0 := by unfold wrapLen at hl; omega
      have d3 : decide ((n : Int) % 8 > 0) = true := decide_eq_true i3
      clear hl
      go_enter Try.func26, Try.ntmps26
      go_wp2_with fail
      refine HH.out.mono ?_
      rintro e w1 ⟨c, kb, R, cq, rfl, _, hB⟩
      have H1 := Lib.hid hB
      clear hB
      go_wp2_with fail
      refine bodyPost_ret (results_tmp2 rfl _ _ _) rfl ?_
      exact RvRes.nil _ _ _ H1.out
/-- append where there is no room, at any row. -/
theorem wp_app_grown {ops : Array Oper} {rest : List Oper} {o : Oper} {a : Act} {w : World} {Q : Exit → Act → World → Prop} (s x : Operand) (A : Option Addr) (n c : Nat) (l : List UInt8) (h1 : Rd w A n c l) (A2 : Option Addr) (m c2 : Nat) (l2 : List UInt8) (h2 : Rd w A2 m c2 l2) (hg : c < n + m) (hlen : l.length + l2.length ≤ 140737488351232) (hgd : o.guard = none)
    (ho : o.op = .call { callee := .builtin .append, args := #[s, x], argTypes := #[22, 22] }) (hs : a.eval s = .slice A n c) (hx : a.eval x = .slice A2 m c2)
    (h : ∀ (C : Nat) (w' : World), 0 < C → Own w' w.heap.size (.slice (some ⟨w.heap.size, 0, none⟩) (n + m) C) (l ++ l2) → Old w w' → wpList Try.prog ops Q rest (a.put o.dst (.slice (some ⟨w.heap.size, 0, none⟩) (n + m) C)) w') : wpList Try.prog ops Q (o :: rest) a w := by
  refine wpList_plain hgd fun K hK => ?_
  obtain ⟨C, w', hrun, hC, hO, hB⟩ := run_append_grown w o.type A n c l h1 A2 m c2 l2 h2 hg hlen
  unfold Oper.wp
  simp only [execOp, ho, resolve, invoke, builtin, Sem.run_bind, Sem.run_pure, Result.andThen_ok, List.map_toArray, List.map_cons, List.map_nil, hs, hx, hrun]
  exact hK _ _ (h C w' hC hO hB)
set_option maxHeartbeats 4000000 in
theorem wrap_any (A C : Option Addr) (mk ck n cb : Nat) (k b : List UInt8) (w : World) (hk : Rd w A mk ck k) (hb : Rd w C n cb b) (hko : keyOk k) (hl : wrapLen n) :
    Calls Try.prog 26 #[.slice A mk ck, .slice C n cb] w (RvRes w (wrapF (encL (rks k) ((rks k).length / 16)) b, 0)) := by
  have hcall := new_any A mk ck k w hk hko
  obtain ⟨TG, hTG⟩ : ∃ T, wrapF (encL (rks k) ((rks k).length / 16)) b = T := ⟨_, rfl⟩
  rw [hTG]
  obtain ⟨l1, l2, l3⟩ := hl
  have i1 : ¬ (n : Int) < 16 := by omega
  have d1 : decide ((n : Int) < 16) = false := decide_eq_false i1
  have i2 : ¬ (n : Int) > 65528 := by omega
  have d2 : decide ((n : Int) > 65528) = false := decide_eq_false i2
  have i3 : ¬ (n : Int) % 8 > 0 := by omega
  have d3 : decide ((n : Int) % 8 > 0) = false := decide_eq_false i3
  obtain ⟨N, hN⟩ : ∃ N, n / 8 = N := ⟨_, rfl⟩
  have hquo : Int.tdiv (n : Int) 8 = (N : Int) := by rw [Int.tdiv_eq_ediv_of_nonneg (by omega)]; omega
  have hquo2 : (n : Int) / 8 = (N : Int) := by omega
  have HH := Lib.hid (And.intro hcall (And.intro hb (And.intro hb.1 (And.intro hTG (And.intro hN (And.intro l1 (And.intro l2 l3)))))))
  clear hcall hk hb hTG hN l1 l2 l3
  go_enter Try.func26, Try.ntmps26
  go_wp2_with fail
  refine HH.out.1.mono ?_
  rintro e w1 ⟨c, kb, R, cq, rfl, hC, hB⟩
  have hR : (rks k).length / 16 = R := by have : (rks k).length = 16 * R := hC.2.2.2.2.2.1; omega
  have hTG := HH.out.2.2.2.1
  rw [hR] at hTG
  have hC0 : Cip w1 0 c (rks k) kb R cq := ⟨hC.1, Nat.zero_le _, Nat.zero_le _, hC.2.2.2⟩
  have hEl : ∀ l : List UInt8, l.length = 16 → (encL (rks k) R l).length = 16 := fun l hl => enc_ne _ R l hl hC.2.2.2.2.2.1
  obtain ⟨E, hE⟩ : ∃ E, encL (rks k) R = E := ⟨_, rfl⟩
  have henc : ∀ (W : World) (A' : Option Addr) (ca : Nat) (l : List UInt8), Old w1 W → Rd W A' 16 ca l → Calls Try.prog 47 #[.pointer (some ⟨c, 0, none⟩), .slice A' 16 ca] W fun e w' => ∃ sb : Nat, e = .returned (.slice (some ⟨sb, 0, none⟩) 16 16) ∧ Rd w' (some ⟨sb, 0, none⟩) 16 16 (E l) ∧ Old W w' ∧ W.heap.size ≤ sb := fun W A' ca l hO hr => by
    refine (enc_any 0 c (rks k) kb R cq A' ca l W (hC0.below hO) hr).mono ?_
    rintro e w' ⟨sb, rfl, hsb, hS, hb⟩
    exact ⟨sb, rfl, by rw [← hE]; exact hS.rd, hb, hsb⟩
  rw [hE] at hEl hTG
  have hcv := Lib.run_convert_bytes_const (P := Try.prog) w1 22 5 #[.int .u8 166, .int .u8 166, .int .u8 166, .int .u8 166, .int .u8 166, .int .u8 166, .int .u8 166, .int .u8 166] 8 8 Try.underlying22 Try.underlying5
  have hsg : Rd (w1.alloc (.cells #[.int .u8 166, .int .u8 166, .int .u8 166, .int .u8 166, .int .u8 166, .int .u8 166, .int .u8 166, .int .u8 166] 5 (8, 9))) (some ⟨w1.heap.size, 0, none⟩) 8 8 sgn := Rd.of_blk (l := sgn) (heap_alloc_new w1 _) (by unfold maxLen sgn; simp)
  have hBs := (Old.refl w1).alloc (.cells #[.int .u8 166, .int .u8 166, .int .u8 166, .int .u8 166, .int .u8 166, .int .u8 166, .int .u8 166, .int .u8 166] 5 (8, 9))
  have H1 := Lib.hid (And.intro henc (And.intro hEl (And.intro hB (And.intro hTG (And.intro hsg hBs)))))
  clear hC hC0 henc hEl hE hR hB hko hTG hsg hBs
  simp only [List.size_toArray, List.length_cons, List.length_nil, Nat.reduceAdd] at hcv
  go_upto_region 7 with (at_builtin; refine wp_app_grown (.tmp 33) (.tmp 34) (some ⟨w1.heap.size, 0, none⟩) 8 8 sgn H1.out.2.2.2.2.1 C n cb b ((HH.out.2.1.below H1.out.2.2.1).below H1.out.2.2.2.2.2) (by have := HH.out.2.2.2.2.2.1; omega) (by have := HH.out.2.2.1; have := HH.out.2.2.2.2.2.2.1; simp only [sgn, List.length_cons, List.length_nil]; omega) rfl rfl rfl rfl ?_; intro c2 w2 hc2 hO2 hB2; have H2 := Lib.hid (And.intro hO2 hB2); clear hO2 hB2)
  clear hcv
  obtain ⟨n2, hn2⟩ : ∃ n2, 8 + n = n2 := ⟨_, rfl⟩
  obtain ⟨g, hg⟩ : ∃ g, (w1.alloc (.cells #[.int .u8 166, .int .u8 166, .int .u8 166, .int .u8 166, .int .u8 166, .int .u8 166, .int .u8 166, .int .u8 166] 5 (8, 9))).heap.size = g := ⟨_, rfl⟩
  have hO2 := H2.out.1
  rw [hn2, hg] at hO2
  have hg2 : w1.heap.size + 1 = g := by rw [← hg]; simp
  rw [hn2, hg2]
  have hN1 : 2 ≤ N := by have := HH.out.2.2.2.2.1; have := HH.out.2.2.2.2.2.1; omega
  have hN2 : N ≤ 8191 := by have := HH.out.2.2.2.2.1; have := HH.out.2.2.2.2.2.2.1; omega
  have hn8 : n2 = 8 * N + 8 := by have := HH.out.2.2.2.2.1; have := HH.out.2.2.2.2.2.2.2; omega
  have hcap := hO2.rd.2.1
  have hcm := hO2.rd.2.2.1
  have hge : w1.heap.size ≤ g := by rw [← hg]; exact H1.out.2.2.2.2.2.size
  have hmul : 6 * (N : Int) = ((6 * N : Nat) : Int) := by omega
  obtain ⟨M, hM⟩ : ∃ M, 6 * N = M := ⟨_, rfl⟩
  rw [hM] at hmul
  have hMw : IntKind.i64.wrap (M : Int) = (M : Int) := IntWalk.i64_in _ (by omega)
  have hob : Below w1.heap.size w1 w2 := Old.trans H1.out.2.2.2.2.2 H2.out.2
  have HC := Lib.hid (And.intro (hO2.mono hge) (And.intro hcap (And.intro hcm (And.intro hge (And.intro hM (And.intro hob hn8))))))
  have hs8 := slice_to (some ⟨g, 0, none⟩) n2 c2 8 (fun ad e => by cases e; rfl) (by omega)
  rw [show ((8 : Nat) : Int) = 8 from rfl] at hs8
  clear hcap hcm hge hM hob hn8 hO2 hg hg2 hn2
  go_wp2_with fail
  go_loopw [9] (fun vt wr => ∃ s : Nat, vt = .int .i64 ((s : Int) + 1) ∧ s ≤ M ∧ Own wr w1.heap.size (.slice (some ⟨g, 0, none⟩) n2 c2) (wrN E N s (sgn ++ b)) ∧ Below w1.heap.size w1 wr) (fun vt _ => M + 1 - (intOf vt).toNat)
  case atStart => exact ⟨0, rfl, by omega, HC.out.1, HC.out.2.2.2.2.2.1⟩
  case round =>
    obtain ⟨s, rfl, hs, hO, hBw⟩ := hrel
    by_cases hlt : s < M
    · obtain ⟨t, ht⟩ : ∃ t, s + 1 = t := ⟨_, rfl⟩
      have ht1 : (s : Int) + 1 = (t : Int) := by omega
      have ht2 : (t : Int) - 1 = (s : Int) := by omega
      have hsw : IntKind.i64.wrap (s : Int) = (s : Int) := IntWalk.i64_in _ (by omega)
      have htM : (t : Int) ≤ (M : Int) := by omega
      have htd : decide ((t : Int) ≤ (M : Int)) = true := decide_eq_true htM
      rw [ht1]
      obtain ⟨q, hq⟩ : ∃ q, s % N = q := ⟨_, rfl⟩
      have hqN : q < N := by rw [← hq]; exact Nat.mod_lt _ (by omega)
      have hm1 : (s : Int) % (N : Int) = (q : Int) := by rw [← hq]; rfl
      have hm2 : Int.tmod (s : Int) (N : Int) = (q : Int) := by rw [Int.tmod_eq_emod_of_nonneg (by omega)]; exact hm1
      have hN0 : ((N : Int) == 0) = false := by simp; omega
      have hN9 : ¬ (N : Int) = 0 := by omega
      obtain ⟨q1, hq1⟩ : ∃ q1, q + 1 = q1 := ⟨_, rfl⟩
      have hm3 : (q : Int) + 1 = (q1 : Int) := by omega
      have hm4 : IntKind.i64.wrap (q1 : Int) = (q1 : Int) := IntWalk.i64_in _ (by omega)
      obtain ⟨i, hi⟩ : ∃ i, 8 * q1 = i := ⟨_, rfl⟩
      have hm5 : 8 * (q1 : Int) = (i : Int) := by omega
      have hm6 : IntKind.i64.wrap (i : Int) = (i : Int) := IntWalk.i64_in _ (by omega)
      obtain ⟨i8, hi8⟩ : ∃ i8, i + 8 = i8 := ⟨_, rfl⟩
      have hm7 : (i : Int) + 8 = (i8 : Int) := by omega
      have hm8 : IntKind.i64.wrap (i8 : Int) = (i8 : Int) := IntWalk.i64_in _ (by omega)
      have hwi : wrI N s = i := by unfold wrI; rw [hq, hq1]; exact hi
      have htw : IntKind.i64.wrap (t : Int) = (t : Int) := IntWalk.i64_in _ (by omega)
      have hi8n : i8 ≤ n2 := by have := HC.out.2.2.2.2.2.2; omega
      have hrl : (wrN E N s (sgn ++ b)).length = n2 := hO.len.symm
      obtain ⟨r, hr⟩ : ∃ r, wrN E N s (sgn ++ b) = r := ⟨_, rfl⟩
      rw [hr] at hO hrl
      have hR := Lib.hid (And.intro hO (And.intro hBw (And.intro hrl (And.intro hwi (And.intro hi8n (And.intro ht (And.intro hr hi8)))))))
      have HQ := Lib.hid (And.intro hq (And.intro hq1 (And.intro hi hqN)))
      clear hO hBw hrl hwi hi8n ht hr hi8 hq hq1 hi hqN
      go_upto_region 12 with fail
      have hsB := fun W : World => slice_both (some ⟨g, 0, none⟩) n2 c2 i i8 (by have := hR.out.2.2.2.2.2.2.2; omega) (by have := HC.out.2.1; have := hR.out.2.2.2.2.1; omega) W
      rw [if_neg (by have := HC.out.2.1; have := hR.out.2.2.2.2.1; have := hR.out.2.2.2.2.2.2.2; omega), show i8 - i = 8 by have := hR.out.2.2.2.2.2.2.2; omega] at hsB
      simp only [Option.map_some, Addr.add_mid, Nat.zero_add] at hsB
      have hrA := hR.out.1.rd.front (k := 8) (by have := hR.out.2.2.2.2.1; have := hR.out.2.2.2.2.2.2.2; omega)
      have hrB := hR.out.1.rd.cut (k := i) (by have := hR.out.2.2.2.2.1; have := hR.out.2.2.2.2.2.2.2; omega)
      rw [if_neg (by have := HC.out.2.1; have := hR.out.2.2.2.2.1; have := hR.out.2.2.2.2.2.2.2; omega)] at hrB
      simp only [Option.map_some, Addr.add_mid, Nat.zero_add] at hrB
      have hrB := hrB.front (k := 8) (by have := hR.out.2.2.2.2.1; have := hR.out.2.2.2.2.2.2.2; omega)
      have HS := Lib.hid (And.intro hs8 (And.intro hsB (And.intro hrA hrB)))
      clear hsB hrA hrB
      refine region_old (by kernel_rfl) (fun wd hHeld hSz => ?_)
      have HSz := Lib.hid hSz
      clear hSz
      have hOd := hHeld
      refine takeL (i := 0) (v := ?_) rfl (by kernel_rfl) (by kernel_rfl) (by kernel_rfl) (fun _ _ _ h => h) (Or.inl ⟨by rfl, ?_⟩) hHeld ?_
      rotate_left
      focus (intro wq hSw; clear hSw; go_simp; try with_reducible rfl)
      try simp only [Act.put, List.setIfInBounds_toArray, List.set_cons_zero, List.set_cons_succ]
      refine takeL (i := 1) (v := ?_) rfl (by kernel_rfl) (by kernel_rfl) (by kernel_rfl) (fun _ _ _ h => h) (Or.inl ⟨by rfl, ?_⟩) hHeld ?_
      rotate_left
      focus (intro wq hSw; clear hSw; go_simp; try with_reducible rfl)
      try simp only [Act.put, List.setIfInBounds_toArray, List.set_cons_zero, List.set_cons_succ]
      refine takeL (i := 2) (v := ?_) rfl (by kernel_rfl) (by kernel_rfl) (by kernel_rfl) (fun _ _ _ h => h) (Or.inl ⟨by rfl, ?_⟩) hHeld ?_
      rotate_left
      focus (intro wq hSw; have hRun := HS.out.1 wq; clear hSw; go_simp; try with_reducible rfl)
      try simp only [Act.put, List.setIfInBounds_toArray, List.set_cons_zero, List.set_cons_succ]
      refine takeL (i := 4) (v := ?_) rfl (by kernel_rfl) (by kernel_rfl) (by kernel_rfl) (fun _ _ _ h => h) (Or.inl ⟨by rfl, ?_⟩) hHeld ?_
      rotate_left
      focus (intro wq hSw; clear hSw; go_simp; try with_reducible rfl)
      try simp only [Act.put, List.setIfInBounds_toArray, List.set_cons_zero, List.set_cons_succ]
      refine takeL (i := 5) (v := ?_) rfl (by kernel_rfl) (by kernel_rfl) (by kernel_rfl) (fun _ _ _ h => h) (Or.inl ⟨by rfl, ?_⟩) hHeld ?_
      rotate_left
      focus (intro wq hSw; clear hSw; go_simp; try with_reducible rfl)
      try simp only [Act.put, List.setIfInBounds_toArray, List.set_cons_zero, List.set_cons_succ]
      refine takeL (i := 6) (v := ?_) rfl (by kernel_rfl) (by kernel_rfl) (by kernel_rfl) (fun _ _ _ h => h) (Or.inl ⟨by rfl, ?_⟩) hHeld ?_
      rotate_left
      focus (intro wq hSw; clear hSw; go_simp; try with_reducible rfl)
      try simp only [Act.put, List.setIfInBounds_toArray, List.set_cons_zero, List.set_cons_succ]
      refine takeL (i := 7) (v := ?_) rfl (by kernel_rfl) (by kernel_rfl) (by kernel_rfl) (fun _ _ _ h => h) (Or.inl ⟨by rfl, ?_⟩) hHeld ?_
      rotate_left
      focus (intro wq hSw; clear hSw; go_simp; try with_reducible rfl)
      try simp only [Act.put, List.setIfInBounds_toArray, List.set_cons_zero, List.set_cons_succ]
      refine takeL (i := 8) (v := ?_) rfl (by kernel_rfl) (by kernel_rfl) (by kernel_rfl) (fun _ _ _ h => h) (Or.inl ⟨by rfl, ?_⟩) hHeld ?_
      rotate_left
      focus (intro wq hSw; have hRun := HS.out.2.1 wq; clear hSw; go_simp; try with_reducible rfl)
      try simp only [Act.put, List.setIfInBounds_toArray, List.set_cons_zero, List.set_cons_succ]
      refine wpAnyH_ready (rs := [3]) (by kernel_rfl) (by simp) ?_
      refine consL rfl (fun K hK => ?_) AllReadyH.nil
      go_simp
      refine (clone_own _ 8 c2 _ wd (HS.out.2.2.1.below hOd) (by omega)).mono ?_
      rintro e w3 ⟨A3, n3, c3, rfl, hO3, hB3⟩
      have hn3e : n3 = 8 := by have h1 := hO3.len; have h2 := HS.out.2.2.1.1; omega
      subst hn3e
      have hn3e := Lib.hid hO3.len
      refine hK.out _ _ (hHeld.trans hB3) (fun hHeld => ?_)
      clear hK K
      try simp only [Act.put, List.setIfInBounds_toArray, List.set_cons_zero, List.set_cons_succ]
      refine wpAnyH_ready (rs := [9]) (by kernel_rfl) (by simp) ?_
      refine consL rfl (fun K hK => ?_) AllReadyH.nil
      refine step_app2 (.tmp 54) (.tmp 59) wd.heap.size (.slice A3 8 c3) _ hO3 hB3.size (some ⟨g, i, none⟩) 8 (c2 - i) _ ((HS.out.2.2.2.below hOd).below hB3) (by rw [← hn3e.out, ← HS.out.2.2.2.1]; omega) rfl rfl rfl rfl (fun A4 n4 c4 w4 hn4 hG4 => ?_)
      have hn4e : n4 = 16 := by have h1 := hG4.len; rw [List.length_append, ← hn3e.out, ← HS.out.2.2.2.1] at h1; exact h1
      subst hn4e
      have hOx4 : Old wr w4 := ((hOd.trans hB3).trans_below (hG4.below.mono hOd.size))
      refine hK.out _ _ hOx4 (fun hHeld => ?_)
      clear hK K
      try simp only [Act.put, List.setIfInBounds_toArray, List.set_cons_zero, List.set_cons_succ]
      refine wpAnyH_ready (rs := [10]) (by kernel_rfl) (by simp) ?_
      refine consL rfl (fun K hK => ?_) AllReadyH.nil
      go_simp
      refine (H1.out.1 w4 _ _ _ (Below.trans hR.out.2.1 (hOx4.mono hR.out.2.1.size)) hG4.own.rd).mono ?_
      rintro e wx ⟨sb, rfl, hRx, hBx, hsb⟩
      refine hK.out _ _ (hHeld.trans hBx) (fun hHeld => ?_)
      clear hK K
      try simp only [Act.put, List.setIfInBounds_toArray, List.set_cons_zero, List.set_cons_succ]
      refine takeL (i := 11) (v := ?_) rfl (by kernel_rfl) (by kernel_rfl) (by kernel_rfl) (fun _ _ _ h => h) (Or.inl ⟨by rfl, ?_⟩) hHeld ?_
      rotate_left
      focus (intro wq hSw; clear hSw; go_simp; try with_reducible rfl)
      try simp only [Act.put, List.setIfInBounds_toArray, List.set_cons_zero, List.set_cons_succ]
      refine wpAnyH_done (by kernel_rfl) ?_ _
      refine NoPanic.normal ?_
      have hOx : Old wr wx := ((hOd.trans hB3).trans_below (hG4.below.mono hOd.size)).trans hBx
      have hXX : wrX E N s r = E (r.take 8 ++ (r.drop i).take 8) := by unfold wrX; rw [hR.out.2.2.2.1]
      rw [← hXX] at hRx
      have hXl : (wrX E N s r).length = 16 := hRx.1.symm
      have hgx : g < sb := Nat.lt_of_lt_of_le (hR.out.1.lt rfl).2 (Nat.le_trans hOx4.size hsb)
      have HX := Lib.hid (And.intro hRx (And.intro (hR.out.1.below hOx) (And.intro (Below.trans hR.out.2.1 (hOx.mono hR.out.2.1.size)) (And.intro hXl hgx))))
      have hBsz := hR.out.2.1.size
      have hx8 := slice_to (some ⟨sb, 0, none⟩) 16 16 8 (fun ad e => by cases e; rfl) (by omega)
      rw [show ((8 : Nat) : Int) = 8 from rfl] at hx8
      have hcvt : ∀ W : World, (convert 3 63 (.int .i64 (t : Int))).run Try.prog W = .ok (U64 (UInt64.ofNat t)) W := fun W => by
        rw [conv_int W .u64 Try.underlying3 Try.underlying63]
        congr 1
      have HT := Lib.hid (And.intro hx8 hcvt)
      obtain ⟨x, hx⟩ : ∃ x, wrX E N s r = x := ⟨_, rfl⟩
      rw [hx] at HX
      have HXe := Lib.hid hx
      clear hOx hXX hRx hXl hgx hBsz hx8 hcvt hx hB3 hO3 hG4 hBx hsb hOd hHeld hOx4 hn3e
      try simp only [Exit.then]
      try go_at_K
      go_wp2_with fail
      have hsz1 : w1.heap.size ≤ wx.heap.size := HX.out.2.2.1.size
      refine region_belowB w1.heap.size hsz1 (by kernel_rfl) (fun wd hOd hHeld => ?_)
      refine takeL (i := 0) (v := ?_) rfl (by kernel_rfl) (by kernel_rfl) (by kernel_rfl) (fun _ _ _ h => h) (Or.inl ⟨by rfl, ?_⟩) hHeld ?_
      rotate_left
      focus (intro wq hSw; clear hSw; go_simp; try with_reducible rfl)
      try simp only [Act.put, List.setIfInBounds_toArray, List.set_cons_zero, List.set_cons_succ]
      refine takeL (i := 1) (v := ?_) rfl (by kernel_rfl) (by kernel_rfl) (by kernel_rfl) (fun _ _ _ h => h) (Or.inl ⟨by rfl, ?_⟩) hHeld ?_
      rotate_left
      focus (intro wq hSw; clear hSw; go_simp; try with_reducible rfl)
      try simp only [Act.put, List.setIfInBounds_toArray, List.set_cons_zero, List.set_cons_succ]
      refine takeL (i := 2) (v := ?_) rfl (by kernel_rfl) (by kernel_rfl) (by kernel_rfl) (fun _ _ _ h => h) (Or.inl ⟨by rfl, ?_⟩) hHeld ?_
      rotate_left
      focus (intro wq hSw; have hRun := HT.out.1 wq; clear hSw; go_simp; try with_reducible rfl)
      try simp only [Act.put, List.setIfInBounds_toArray, List.set_cons_zero, List.set_cons_succ]
      refine takeL (i := 3) (v := ?_) rfl (by kernel_rfl) (by kernel_rfl) (by kernel_rfl) (fun _ _ _ h => h) (Or.inl ⟨by rfl, ?_⟩) hHeld ?_
      rotate_left
      focus (intro wq hSw; clear hSw; go_simp; try with_reducible rfl)
      try simp only [Act.put, List.setIfInBounds_toArray, List.set_cons_zero, List.set_cons_succ]
      refine takeL (i := 4) (v := ?_) rfl (by kernel_rfl) (by kernel_rfl) (by kernel_rfl) (fun _ _ _ h => h) (Or.inl ⟨by rfl, ?_⟩) hHeld ?_
      rotate_left
      focus (intro wq hSw; have hRun := HT.out.2 wq; clear hSw; go_simp; try with_reducible rfl)
      try simp only [Act.put, List.setIfInBounds_toArray, List.set_cons_zero, List.set_cons_succ]
      refine wpAnyH_ready (rs := [5]) (by kernel_rfl) (by simp) ?_
      refine consL rfl (fun K hK => ?_) AllReadyH.nil
      go_simp
      refine (append64_any (.slice none 0 0) (UInt64.ofNat t) [] wd wd.heap.size (Own.nil _ _) (Nat.le_refl _) (by simp)).mono ?_
      rintro e w5 ⟨v5, rfl, hO5, hT5, _⟩
      have hB5 : Old wd w5 := below_turn (Old.refl _) hT5 (by simp [Value.ownBlock]) (Nat.le_refl _)
      rw [List.nil_append] at hO5
      obtain ⟨A5, c5, rfl, _⟩ := hO5.shape
      refine hK.out _ _ (hHeld.trans (hB5.mono (Nat.le_trans hsz1 hOd.size))) (fun hHeld => ?_)
      clear hK K
      try simp only [Act.put, List.setIfInBounds_toArray, List.set_cons_zero, List.set_cons_succ]
      refine wpAnyH_ready (rs := [6]) (by kernel_rfl) (by simp) ?_
      refine consL rfl (fun K hK => ?_) AllReadyH.nil
      go_simp
      refine (xored_any (some ⟨sb, 0, none⟩) A5 8 16 (bytes64 (UInt64.ofNat t)).length c5 (x.take 8) _ w5 (((HX.out.1.below hOd).below hB5).front (by omega)) hO5.rd (by rw [bytes64_len]; omega) (by omega)).mono ?_
      rintro e w6 ⟨rfl, hO6, hB6⟩
      refine hK.out _ _ (hHeld.trans (hB6.mono (Nat.le_trans hsz1 (Nat.le_trans hOd.size hB5.size)))) (fun hHeld => ?_)
      clear hK K
      try simp only [Act.put, List.setIfInBounds_toArray, List.set_cons_zero, List.set_cons_succ]
      refine wpAnyH_ready (rs := [7]) (by kernel_rfl) (by simp) ?_
      refine consL rfl (fun K hK => ?_) AllReadyH.nil
      refine step_copyR rfl (.tmp 62) (.tmp 68) rfl w1.heap.size g n2 c2 0 n2 c2 r (((HX.out.2.1.below hOd).below hB5).below hB6) rfl (by rw [hR.out.2.2.1]; omega) _ 8 8 _ rfl hO6.rd (fun w7 hO7 hG7 => ?_)
      have hB7 : Below w1.heap.size w6 w7 := (Below.refl _ _).grown hG7 (Nat.le_trans hsz1 (Nat.le_trans hOd.size (Nat.le_trans hB5.size hB6.size))) (fun k hk => by cases hk; exact HC.out.2.2.2.1)
      refine hK.out _ _ (hHeld.trans hB7) (fun hHeld => ?_)
      clear hK K
      try simp only [Act.put, List.setIfInBounds_toArray, List.set_cons_zero, List.set_cons_succ]
      refine wpAnyH_done (by kernel_rfl) ?_ _
      refine NoPanic.normal ?_
      obtain ⟨r1, hr1⟩ : ∃ r1, splice r 0 ((xorL (x.take 8) (bytes64 (UInt64.ofNat t))).take n2) = r1 := ⟨_, rfl⟩
      rw [hr1] at hO7
      have hT7 : Turn [g] w6 w7 := Turn.of_grown (v := .slice (some ⟨g, 0, none⟩) 0 0) hG7
      have hx7 : Rd w7 (some ⟨sb, 0, none⟩) 16 16 x := (((HX.out.1.below hOd).below hB5).below hB6).turn hT7 (fun ad e => by cases e; simp; have := HX.out.2.2.2.2; omega)
      have hx78 := hx7.cut (k := 8) (by omega)
      rw [if_neg (by omega)] at hx78
      simp only [Option.map_some, Addr.add_mid, Nat.zero_add] at hx78
      have hsC := fun W : World => slice_from (some ⟨g, 0, none⟩) n2 c2 i (by have := hR.out.2.2.2.2.1; have := hR.out.2.2.2.2.2.2.2; omega) W
      rw [if_neg (by have := HC.out.2.1; have := hR.out.2.2.2.2.1; have := hR.out.2.2.2.2.2.2.2; omega)] at hsC
      simp only [Option.map_some, Addr.add_mid, Nat.zero_add] at hsC
      have hsD := fun W : World => slice_from (some ⟨sb, 0, none⟩) 16 16 8 (by omega) W
      rw [if_neg (by omega), show ((8 : Nat) : Int) = 8 from rfl] at hsD
      simp only [Option.map_some, Addr.add_mid, Nat.zero_add] at hsD
      have hb17 := HX.out.2.2.1.trans hHeld
      have HY := Lib.hid (And.intro hO7 (And.intro hx78 (And.intro hb17 (And.intro hr1 (And.intro hsC hsD)))))
      have hsz7 : w1.heap.size ≤ w7.heap.size := hb17.size
      clear hO7 hr1 hT7 hx7 hx78 hsC hsD hb17 hHeld hOd hB5 hB6 hO5 hT5 hO6 hG7 hB7 hsz1
      try simp only [Exit.then]
      try go_at_K
      go_wp2_with fail
      refine region_belowB w1.heap.size hsz7 (by kernel_rfl) (fun wd hOd hHeld => ?_)
      refine takeL (i := 0) (v := ?_) rfl (by kernel_rfl) (by kernel_rfl) (by kernel_rfl) (fun _ _ _ h => h) (Or.inl ⟨by rfl, ?_⟩) hHeld ?_
      rotate_left
      focus (intro wq hSw; clear hSw; go_simp; try with_reducible rfl)
      try simp only [Act.put, List.setIfInBounds_toArray, List.set_cons_zero, List.set_cons_succ]
      refine takeL (i := 1) (v := ?_) rfl (by kernel_rfl) (by kernel_rfl) (by kernel_rfl) (fun _ _ _ h => h) (Or.inl ⟨by rfl, ?_⟩) hHeld ?_
      rotate_left
      focus (intro wq hSw; clear hSw; go_simp; try with_reducible rfl)
      try simp only [Act.put, List.setIfInBounds_toArray, List.set_cons_zero, List.set_cons_succ]
      refine takeL (i := 2) (v := ?_) rfl (by kernel_rfl) (by kernel_rfl) (by kernel_rfl) (fun _ _ _ h => h) (Or.inl ⟨by rfl, ?_⟩) hHeld ?_
      rotate_left
      focus (intro wq hSw; have hRun := HY.out.2.2.2.2.1 wq; clear hSw; go_simp; try with_reducible rfl)
      try simp only [Act.put, List.setIfInBounds_toArray, List.set_cons_zero, List.set_cons_succ]
      refine takeL (i := 3) (v := ?_) rfl (by kernel_rfl) (by kernel_rfl) (by kernel_rfl) (fun _ _ _ h => h) (Or.inl ⟨by rfl, ?_⟩) hHeld ?_
      rotate_left
      focus (intro wq hSw; clear hSw; go_simp; try with_reducible rfl)
      try simp only [Act.put, List.setIfInBounds_toArray, List.set_cons_zero, List.set_cons_succ]
      refine takeL (i := 4) (v := ?_) rfl (by kernel_rfl) (by kernel_rfl) (by kernel_rfl) (fun _ _ _ h => h) (Or.inl ⟨by rfl, ?_⟩) hHeld ?_
      rotate_left
      focus (intro wq hSw; have hRun := HY.out.2.2.2.2.2 wq; clear hSw; go_simp; try with_reducible rfl)
      try simp only [Act.put, List.setIfInBounds_toArray, List.set_cons_zero, List.set_cons_succ]
      refine wpAnyH_ready (rs := [5]) (by kernel_rfl) (by simp) ?_
      refine consL rfl (fun K hK => ?_) AllReadyH.nil
      refine step_copyR rfl (.tmp 72) (.tmp 74) rfl w1.heap.size g n2 c2 i (n2 - i) (c2 - i) r1 (HY.out.1.below hOd) rfl (by have h1 := HY.out.1.len; have := hR.out.2.2.2.2.1; have := hR.out.2.2.2.2.2.2.2; omega) (some ⟨sb, 8, none⟩) 8 8 (x.drop 8) rfl (HY.out.2.1.below hOd) (fun w9 hO9 hG9 => ?_)
      have hB9 : Below w1.heap.size wd w9 := (Below.refl _ _).grown hG9 (Nat.le_trans hsz7 hOd.size) (fun k hk => by cases hk; exact HC.out.2.2.2.1)
      refine hK.out _ _ (hHeld.trans hB9) (fun hHeld => ?_)
      clear hK K
      try simp only [Act.put, List.setIfInBounds_toArray, List.set_cons_zero, List.set_cons_succ]
      refine wpAnyH_done (by kernel_rfl) ?_ _
      refine NoPanic.normal ?_
      have hfin : splice r1 i ((x.drop 8).take (n2 - i)) = wrF E N s r := by
        have e1 : (xorL (x.take 8) (bytes64 (UInt64.ofNat t))).length = 8 := xorL_lenLe _ _ 8 (by rw [List.length_take]; have := HX.out.1.1; omega) (by rw [bytes64_len]; exact Nat.le_refl _)
        have e2 := HY.out.2.2.2.1
        rw [List.take_of_length_le (by rw [e1]; have := hR.out.2.2.2.2.1; have := hR.out.2.2.2.2.2.2.2; omega)] at e2
        rw [List.take_of_length_le (by rw [List.length_drop]; have := HX.out.1.1; have := hR.out.2.2.2.2.1; have := hR.out.2.2.2.2.2.2.2; omega)]
        unfold wrF wrY
        rw [HXe.out, hR.out.2.2.2.1, hR.out.2.2.2.2.2.1, e2]
      rw [hfin] at hO9
      have HF := Lib.hid (And.intro hO9 (HY.out.2.2.1.trans hHeld))
      have hwt1 : IntKind.i64.wrap ((t : Int) + 1) = (t : Int) + 1 := IntWalk.i64_in _ (by omega)
      clear hO9 hfin hHeld hOd hG9 hB9 hsz7
      try simp only [Exit.then]
      try go_at_K
      go_wp2_with fail
      go_roundw
      case rel => exact ⟨t, rfl, by omega, by rw [← hR.out.2.2.2.2.2.1]; show Own _ _ _ (wrF E N s (wrN E N s (sgn ++ b))); rw [hR.out.2.2.2.2.2.2.1]; exact HF.out.1, HF.out.2⟩
      case measure => have := hR.out.2.2.2.2.2.1; simp [intOf]; omega
    · obtain rfl : s = M := by omega
      have htM : ¬ (s : Int) + 1 ≤ (s : Int) := by omega
      have htd : decide ((s : Int) + 1 ≤ (s : Int)) = false := decide_eq_false htM
      have HX := Lib.hid (And.intro hO hBw)
      clear hO hBw
      go_wp2_with fail
      refine bodyPost_ret (results_tmp2 rfl _ _ _) rfl ?_
      refine ⟨_, _, _, rfl, ?_, Old.trans_below H1.out.2.2.1 (HX.out.2.mono H1.out.2.2.1.size)⟩
      have h1 := HX.out.1.rd
      have h2 := H1.out.2.2.2.1
      unfold wrapF at h2
      rw [show b.length / 8 = N by have := HH.out.2.2.1; have := HH.out.2.2.2.2.1; omega, HC.out.2.2.2.2.1] at h2
      rw [← h2]
      exact h1
end Go.Proofs.Ytiocmebcbhbcmaa
