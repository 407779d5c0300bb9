/-
  DER: what is read of numbers and names, plainly; the laws' cut of a number.
  DER: the law DerNumbers.
-/
import Derived.Test.YtgkhhinjdojbhaaRn7
import Derived.Test.YtgkhhinjdojbhaaDer28
import Derived.Test.YtgkhhinjdojbhaaSliceE
namespace Go.Proofs.Ytgkhhinjdojbhaa
open Go.RowKit

theorem arcsGo_hi : ∀ (k : Nat) (r : List UInt8) (l : List Int), k ≤ 268435536 → arcsGo (digHi k ++ r) 0 l = arcsGo r k l := by
  intro k
  induction k using Nat.strongRecOn with
  | _ k ih =>
  intro r l hk
  by_cases h0 : k = 0
  · subst h0; rw [digHi_zero]; rfl
  · have h1 := digHi_step (n := k) (l := r) h0
    rw [← h1, ih (k / 128) (by omega) _ _ (by omega)]
    have hx : (UInt8.ofNat (128 + k % 128)).toNat = 128 + k % 128 := by rw [UInt8.toNat_ofNat']; omega
    rw [arcsGo, hx, show k / 128 * 128 + (128 + k % 128) % 128 = k by omega, if_neg (by omega), if_pos (by omega)]
theorem arcsGo_dig (n : Nat) (r : List UInt8) (l : List Int) (hn : n ≤ 268435536) (hl : l ≠ []) (h2 : n ≤ 268435456) : arcsGo (dig n ++ r) 0 l = arcsGo r 0 (l ++ [(n : Int)]) := by
  unfold dig
  rw [List.append_assoc, arcsGo_hi _ _ _ (by omega)]
  have hx : (UInt8.ofNat (n % 128)).toNat = n % 128 := by rw [UInt8.toNat_ofNat']; omega
  rw [List.singleton_append, arcsGo, hx, show n / 128 * 128 + n % 128 % 128 = n by omega, if_neg (by omega), if_neg (by omega), if_neg hl, if_neg (by omega)]
theorem arcsGo_first (a b : Nat) (r : List UInt8) (ha : a ≤ 2) (hb : b ≤ 268435456) (hab : a < 2 → b ≤ 39) : arcsGo (dig (40 * a + b) ++ r) 0 [] = arcsGo r 0 [(a : Int), (b : Int)] := by
  obtain ⟨n, hn⟩ : ∃ n, 40 * a + b = n := ⟨_, rfl⟩
  rw [hn]
  unfold dig
  rw [List.append_assoc, arcsGo_hi _ _ _ (by omega)]
  have hx : (UInt8.ofNat (n % 128)).toNat = n % 128 := by rw [UInt8.toNat_ofNat']; omega
  have hm : min (n / 40) 2 = a := by
    rcases Nat.lt_or_ge a 2 with h | h
    · have := hab h
      rw [Nat.min_eq_left (by omega)]; omega
    · rw [Nat.min_eq_right (by omega)]; omega
  rw [List.singleton_append, arcsGo, hx, show n / 128 * 128 + n % 128 % 128 = n by omega, if_neg (by omega), if_neg (by omega), if_pos rfl, hm, show n - 40 * a = b by omega, if_neg (by omega)]
theorem arcsGo_all : ∀ (q : List Int) (l : List Int), l ≠ [] → q.all arcOk = true → arcsGo (digAll q) 0 l = some (l ++ q)
  | [], l, _, _ => by
    have : digAll [] = [] := rfl
    rw [this, arcsGo, List.append_nil]
  | a :: q, l, hl, hq => by
    rw [List.all_cons, Bool.and_eq_true] at hq
    have h1 := hq.1
    unfold arcOk at h1
    rw [Bool.and_eq_true, decide_eq_true_eq, decide_eq_true_eq] at h1
    obtain ⟨p, rfl⟩ := Int.eq_ofNat_of_zero_le h1.1
    have : digAll ((p : Int) :: q) = dig p ++ digAll q := rfl
    rw [this, arcsGo_dig p _ _ (by omega) hl (by omega), arcsGo_all q _ (by simp) hq.2, List.append_assoc]; rfl
theorem nameGo_hi : ∀ (k : Nat) (r : List UInt8), k < 268435456 * 128 → nameGo true (digHi k ++ r) = nameGo (decide (k = 0)) r := by
  intro k
  induction k using Nat.strongRecOn with
  | _ k ih =>
  intro r hk
  by_cases h0 : k = 0
  · subst h0; rw [digHi_zero]; rfl
  · have h1 := digHi_step (n := k) (l := r) h0
    rw [← h1, ih (k / 128) (by omega) _ (by omega), decide_eq_false h0, nameGo]
    have hx : (UInt8.ofNat (128 + k % 128)).toNat = 128 + k % 128 := by rw [UInt8.toNat_ofNat']; omega
    have h128 : (128 : UInt8).toNat = 128 := rfl
    have hlt : decide (UInt8.ofNat (128 + k % 128) < 128) = false := decide_eq_false (by rw [UInt8.lt_iff_toNat_lt, hx]; omega)
    rw [hlt]
    by_cases h2 : k / 128 = 0
    · have hne : (UInt8.ofNat (128 + k % 128) == 128) = false := by
        rw [beq_eq_false_iff_ne]
        intro e
        have := congrArg UInt8.toNat e
        rw [hx, h128] at this
        omega
      rw [hne, Bool.and_false, if_neg (by decide)]
    · rw [decide_eq_false h2, Bool.false_and, if_neg (by decide)]
theorem nameGo_dig (n : Nat) (r : List UInt8) (hn : n < 268435456 * 128) : nameGo true (dig n ++ r) = nameGo true r := by
  unfold dig
  rw [List.append_assoc, nameGo_hi _ _ (by omega), List.singleton_append, nameGo]
  have hx : (UInt8.ofNat (n % 128)).toNat = n % 128 := by rw [UInt8.toNat_ofNat']; omega
  have hlt : decide (UInt8.ofNat (n % 128) < 128) = true := decide_eq_true (by rw [UInt8.lt_iff_toNat_lt, hx]; have : (128 : UInt8).toNat = 128 := rfl; omega)
  have hne : (UInt8.ofNat (n % 128) == 128) = false := by
    rw [beq_eq_false_iff_ne]
    intro e
    have := congrArg UInt8.toNat e
    rw [hx] at this
    have h128 : (128 : UInt8).toNat = 128 := rfl
    omega
  rw [hne, Bool.and_false, if_neg (by decide), hlt]
theorem nameGo_all : ∀ (q : List Int), q.all arcOk = true → nameGo true (digAll q) = some true
  | [], _ => rfl
  | a :: q, hq => by
    rw [List.all_cons, Bool.and_eq_true] at hq
    have h1 := hq.1
    unfold arcOk at h1
    rw [Bool.and_eq_true, decide_eq_true_eq, decide_eq_true_eq] at h1
    have : digAll (a :: q) = dig a.toNat ++ digAll q := rfl
    rw [this, nameGo_dig _ _ (by omega), nameGo_all q hq.2]
/-- What OID makes is read by Arcs. -/
theorem oid_arcs {l : List Int} (h : oidOk l = true) : (Nd.mk 6 (oidB l) []).arcs = some l ∧ (Nd.mk 6 (oidB l) []).b.length ≤ 6 * (l.length + 1) := by
  have hall : ∀ a ∈ l, 0 ≤ a ∧ a ≤ 268435456 := fun a ha => by
    unfold oidOk at h
    rw [Bool.and_eq_true] at h
    have h9 := List.all_eq_true.1 h.2 a ha
    unfold arcOk at h9
    rw [Bool.and_eq_true, decide_eq_true_eq, decide_eq_true_eq] at h9
    exact h9
  have h' := h
  unfold oidOk oidHead at h
  rw [Bool.and_eq_true, Bool.and_eq_true, Bool.and_eq_true, decide_eq_true_eq, decide_eq_true_eq, Bool.or_eq_true, decide_eq_true_eq, decide_eq_true_eq] at h
  obtain ⟨⟨⟨h1, h2⟩, h3⟩, h4⟩ := h
  match l, h1, h' with
  | x :: y :: q, _, h' =>
    obtain ⟨x0, x1⟩ := hall x (by simp)
    obtain ⟨y0, y1⟩ := hall y (by simp)
    obtain ⟨a, rfl⟩ := Int.eq_ofNat_of_zero_le x0
    obtain ⟨b, rfl⟩ := Int.eq_ofNat_of_zero_le y0
    simp only [List.getD_cons_zero, List.getD_cons_succ] at h2 h3
    have hq : q.all arcOk = true := by
      rw [List.all_cons, List.all_cons, Bool.and_eq_true, Bool.and_eq_true] at h4
      exact h4.2.2
    have hB : oidB ((a : Int) :: (b : Int) :: q) = dig (40 * a + b) ++ digAll q := by
      unfold oidB
      simp only [List.getD_cons_zero, List.getD_cons_succ, List.drop_succ_cons, List.drop_zero]
      rw [show (40 * (a : Int) + (b : Int)).toNat = 40 * a + b by omega]
    have hlen : (oidB ((a : Int) :: (b : Int) :: q)).length ≤ 6 * (q.length + 1) := by
      rw [hB, List.length_append]
      have e1 := dig_len (n := 40 * a + b) (by omega)
      have e2 := digAll_len (l := q) (fun z hz => by have := hall z (by simp [hz]); omega)
      omega
    have hname : nameOk (oidB ((a : Int) :: (b : Int) :: q)) = true := by
      unfold nameOk
      rw [hB, nameGo_dig _ _ (by omega), nameGo_all q hq]
      have : 0 < (dig (40 * a + b) ++ digAll q).length := by unfold dig; simp; omega
      simp only [Bool.and_true]
      exact decide_eq_true this
    have hmay : (Nd.mk 6 (oidB ((a : Int) :: (b : Int) :: q)) []).may = true := by
      unfold Nd.may
      rw [show (Nd.mk 6 (oidB ((a : Int) :: (b : Int) :: q)) []).size = 1 by rw [Nd.size, sizeAll], Nd.ok, if_neg (by decide)]
      have : plainOk 6 (oidB ((a : Int) :: (b : Int) :: q)) = nameOk (oidB ((a : Int) :: (b : Int) :: q)) := rfl
      rw [this, hname]; rfl
    refine ⟨?_, by simp only [Nd.b, List.length_cons]; omega⟩
    unfold Nd.arcs
    rw [hmay]
    simp only [Nd.tag, Nd.b, decide_true, Bool.and_self, if_true]
    rw [hB, arcsGo_first a b _ (by omega) (by omega) (fun h => by omega), arcsGo_all q _ (by simp) hq]; rfl
/-- A number's node, read. -/
def natV (n : Nd) : Nat := if n.isNat then beVal n.b else 0
theorem intNd_nat (v : Nat) : (intNd v).isNat = true ∧ beVal (intNd v).b = v ∧ (intNd v).b.length = bl v / 8 + 1 := by
  have h1 : v < 256 ^ (bl v / 8 + 1) := by
    have h2 := bl_lt v
    have h3 : (2 : Nat) ^ bl v ≤ 256 ^ (bl v / 8 + 1) := by
      rw [show (256 : Nat) = 2 ^ 8 from rfl, ← Nat.pow_mul]
      exact Nat.pow_le_pow_right (by omega) (by omega)
    omega
  refine ⟨?_, beVal_beN _ _ h1, beN_len _ _⟩
  unfold Nd.isNat
  have ht : (intNd v).tag = 2 := rfl
  rw [ht]
  unfold Nd.may
  rw [show (intNd v).size = 1 by unfold intNd; rw [Nd.size, sizeAll]]
  have hok : (intNd v).ok 16 = plainOk 2 (beN (bl v / 8 + 1) v) := by
    unfold intNd
    rw [Nd.ok, if_neg (by decide)]; rfl
  rw [hok]
  have hp : plainOk 2 (beN (bl v / 8 + 1) v) = true := by
    unfold plainOk
    rw [if_pos rfl]
    have hl := beN_len (bl v / 8 + 1) v
    have h0 : (beN (bl v / 8 + 1) v).getD 0 0 = byteAt v (bl v / 8) := by
      rw [List.getD_eq_getElem?_getD]
      unfold beN
      rw [List.getElem?_map, List.getElem?_range (by omega)]
      simp
    have hb0 : (byteAt v (bl v / 8)).toNat < 128 := by
      unfold byteAt
      have h2 := bl_lt v
      have h3 : v / 256 ^ (bl v / 8) < 128 := by
        rw [Nat.div_lt_iff_lt_mul (Nat.pow_pos (by omega)), show (256 : Nat) = 2 ^ 8 from rfl, ← Nat.pow_mul, show (128 : Nat) = 2 ^ 7 from rfl, ← Nat.pow_add]
        exact Nat.lt_of_lt_of_le h2 (Nat.pow_le_pow_right (by omega) (by omega))
      rw [byte_nat]
      exact Nat.lt_of_le_of_lt (Nat.mod_le _ _) h3
    have h128 : (128 : UInt8).toNat = 128 := rfl
    rw [h0, decide_eq_true (show byteAt v (bl v / 8) < 128 by rw [UInt8.lt_iff_toNat_lt]; omega), decide_eq_true (by omega), Bool.true_and, Bool.true_and, Bool.or_eq_true, Bool.or_eq_true, decide_eq_true_eq, decide_eq_true_eq, decide_eq_true_eq, hl]
    by_cases hz : bl v / 8 = 0
    · exact .inl (.inr (by omega))
    · by_cases h8 : bl v % 8 = 0
      · right
        have h1' : (beN (bl v / 8 + 1) v).getD 1 0 = byteAt v (bl v / 8 - 1) := by
          rw [List.getD_eq_getElem?_getD]
          unfold beN
          rw [List.getElem?_map, List.getElem?_range (by omega)]
          simp
        rw [h1', UInt8.le_iff_toNat_le, h128]
        unfold byteAt
        rw [byte_nat]
        obtain ⟨e, he⟩ : ∃ e, bl v / 8 - 1 = e := ⟨_, rfl⟩
        rw [he]
        have hvz : v ≠ 0 := fun e => by subst e; simp [bl_zero] at hz
        have h5 : bl v = 8 * e + 8 := by omega
        have h6 : 2 ^ (8 * e + 7) ≤ v := by
          rcases Nat.lt_or_ge v (2 ^ (8 * e + 7)) with h | h
          · have := bl_le h; omega
          · exact h
        have h7 : v < 2 ^ (8 * e + 8) := by have := bl_lt v; rwa [h5] at this
        rw [show (256 : Nat) ^ e = 2 ^ (8 * e) by rw [show (256 : Nat) = 2 ^ 8 from rfl, ← Nat.pow_mul]]
        rw [Nat.pow_add] at h6 h7
        have h8' : v / 2 ^ (8 * e) < 256 := by rw [Nat.div_lt_iff_lt_mul (Nat.pow_pos (by omega))]; omega
        have h9 : 128 ≤ v / 2 ^ (8 * e) := by rw [Nat.le_div_iff_mul_le (Nat.pow_pos (by omega))]; omega
        omega
      · refine .inl (.inl ?_)
        rw [UInt8.lt_iff_toNat_lt]
        have h0' : (0 : UInt8).toNat = 0 := rfl
        rw [h0']
        unfold byteAt
        rw [byte_nat]
        obtain ⟨e, he⟩ : ∃ e, bl v / 8 = e := ⟨_, rfl⟩
        rw [he]
        have h6 : 2 ^ (8 * e) ≤ v := by
          rcases Nat.lt_or_ge v (2 ^ (8 * e)) with h | h
          · have := bl_le h; omega
          · exact h
        have h7 : v < 2 ^ (8 * e + 8) := by
          have := bl_lt v
          exact Nat.lt_of_lt_of_le this (Nat.pow_le_pow_right (by omega) (by omega))
        rw [show (256 : Nat) ^ e = 2 ^ (8 * e) by rw [show (256 : Nat) = 2 ^ 8 from rfl, ← Nat.pow_mul]]
        rw [Nat.pow_add] at h7
        have h8' : v / 2 ^ (8 * e) < 256 := by rw [Nat.div_lt_iff_lt_mul (Nat.pow_pos (by omega))]; omega
        have h9 : 1 ≤ v / 2 ^ (8 * e) := by rw [Nat.le_div_iff_mul_le (Nat.pow_pos (by omega))]; omega
        omega
  rw [hp]; rfl
theorem trim_limbsN {N v : Nat} (h : v < 2 ^ (64 * N)) : trimL (limbsN N v) = dB 18446744073709551616 v := by rw [trim_d64, valL_limbsN N v h]
theorem NatPost.uni {w w' : World} {e : Ending} {n : Nd} (h : NatPost w w' e n n.isNat) : ∃ A m c, e = .returned (.tuple #[.slice A m c, .bool n.isNat]) ∧ RdC Try.eU w' A m (dB 18446744073709551616 (natV n)) := by
  unfold natV
  cases hi : n.isNat with
  | false =>
    rw [hi] at h
    refine ⟨none, 0, 0, h, ?_⟩
    rw [if_neg (by decide), dB_zero]
    exact ⟨rfl, .inl rfl⟩
  | true =>
    rw [hi] at h
    obtain ⟨g, n1, c1, he, _, _, _, hr⟩ := h
    refine ⟨_, n1, c1, he, ?_⟩
    rw [if_pos rfl]
    have hv : beVal n.b < 2 ^ (64 * ((n.b.length + 7) / 8)) := by
      have h1 := beVal_lt n.b
      have h2 : (256 : Nat) ^ n.b.length ≤ 2 ^ (64 * ((n.b.length + 7) / 8)) := by
        rw [show (256 : Nat) = 2 ^ 8 from rfl, ← Nat.pow_mul]
        exact Nat.pow_le_pow_right (by omega) (by omega)
      omega
    rw [trim_limbsN hv] at hr
    exact hr
theorem RNatPost.uni {w w' : World} {e : Ending} {n : Nd} (h : RNatPost w w' e n n.isNat) : ∃ A m c, e = .returned (.tuple #[.slice A m c, .bool n.isNat]) ∧ RdC Try.eU w' A m (dB 4294967296 (natV n)) := by
  unfold natV
  cases hi : n.isNat with
  | false =>
    rw [hi] at h
    refine ⟨none, 0, 0, h, ?_⟩
    rw [if_neg (by decide), dB_zero]
    exact ⟨rfl, .inl rfl⟩
  | true =>
    rw [hi] at h
    obtain ⟨A1, n1, he, hr⟩ := h
    exact ⟨_, n1, n1, he, hr.1⟩
def oidN (l : List Int) : Nd := if oidOk l then .mk 6 (oidB l) [] else .mk 0 [] []
theorem OidPost.uni {w w' : World} {e : Ending} {l : List Int} (h : OidPost w w' e l (oidOk l)) : ∃ f : NF, e = .returned (.tuple #[f.val, .bool (oidOk l)]) ∧ NdU w' f (oidN l) := by
  unfold oidN
  cases hi : oidOk l with
  | false => rw [hi] at h; exact ⟨zNF, h, by rw [if_neg (by decide)]; exact NdU.zero _⟩
  | true =>
    rw [hi] at h
    obtain ⟨f, he, hN⟩ := h
    exact ⟨f, he, by rw [if_pos rfl]; exact NdU.of hN⟩
theorem ArcsPost.uni {w w' : World} {e : Ending} {o : Option (List Int)} (h : ArcsPost w w' e o) : ∃ A m c, e = .returned (.tuple #[.slice A m c, .bool o.isSome]) ∧ RdC Try.eI w' A m (o.getD []) := by
  cases o with
  | none => exact ⟨none, 0, 0, h, ⟨rfl, .inl rfl⟩⟩
  | some l =>
    obtain ⟨A1, n1, c1, he, ho⟩ := h
    exact ⟨A1, n1, c1, he, ho.rd⟩
theorem arcsGo_len : ∀ (r : List UInt8) (v : Nat) (l l' : List Int), arcsGo r v l = some l' → l'.length ≤ l.length + 2 * r.length
  | [], v, l, l', h => by unfold arcsGo at h; injection h with h; subst h; omega
  | x :: r, v, l, l', h => by
    unfold arcsGo at h
    split at h
    · cases h
    · split at h
      · have := arcsGo_len r _ _ _ h; simp; omega
      · split at h
        · split at h
          · cases h
          · have := arcsGo_len r _ _ _ h; simp at this ⊢; omega
        · split at h
          · cases h
          · have := arcsGo_len r _ _ _ h; simp at this ⊢; omega
theorem Nd.arcs_len {n : Nd} (h : n.b.length ≤ 400) : (n.arcs.getD []).length ≤ 1000 := by
  unfold Nd.arcs
  split
  · cases hc : arcsGo n.b 0 [] with
    | none => simp
    | some l => have := arcsGo_len _ _ _ _ hc; simp at this ⊢; omega
  · simp
theorem someN_b (n : Nd) (d : Nat) (left : Int) : (n.someN d left).1.b.length ≤ 200 := by
  cases n with
  | mk t b ks => rw [Nd.someN]; simp only [Nd.b]; rw [List.length_take]; omega
theorem Nd.cut_b (n : Nd) : n.cut.b.length ≤ 200 := someN_b n 17 60
set_option maxRecDepth 100000 in
set_option maxHeartbeats 2000000 in
theorem cutNat_any (A : Option Addr) (m c : Nat) (l : List UInt64) (n : Nat) (w : World) (h : RdC Try.eU w A m l) (hc : m ≤ c ∧ c ≤ maxLen) (hnil : A = none → c = 0) (hn : n ≤ 1000) :
    Calls Try.prog 18 #[.slice A m c, .int .i64 (n : Int)] w fun e w' => ∃ A1 n1 c1, e = .returned (.slice A1 n1 c1) ∧ OwnE Try.eU w' w.heap.size (.slice A1 n1 c1) (l.take n) ∧ Below w.heap.size w w' := by
  have hml := h.1
  have hm63 : (m : Int) ≤ 9223372036854775807 := by unfold maxLen at hc; omega
  by_cases hlt : m < n
  · have t1 : (m : Int) < n := by omega
    have t1d : decide ((m : Int) < (n : Int)) = true := decide_eq_true t1
    have hs : (Instr.slice 38 (.slice A m c) none (some (.int .i64 (m : Int))) none).run Try.prog w = .ok (.slice A m c) w := slice_toE Try.eU A m c m hc.1 w
    have htk : l.take n = l := List.take_of_length_le (by omega)
    have H0 := Lib.hid (And.intro h (And.intro htk (And.intro hnil (And.intro hml hlt))))
    clear h htk hc hml hnil hlt
    go_enter Try.func18, Try.ntmps18
    go_wp2_with (at_builtin; go_loud (refine wp_appE Try.eU (.const (.slice none 0 0)) (.tmp 13) w.heap.size (.slice none 0 0) [] (OwnE.nil _ _) (Nat.le_refl _) A m c l H0.out.1 H0.out.2.2.1 (by have := H0.out.2.2.2; simp; omega) rfl rfl rfl rfl ?_; intro A6 n6 c6 w6 hG; have H6 := Lib.hid hG; clear hG))
    go_ret
    exact ⟨A6, n6, c6, rfl, by rw [H0.out.2.1]; exact H6.out.own, H6.out.below⟩
  · have t1 : ¬ (m : Int) < n := by omega
    have t1d : decide ((m : Int) < (n : Int)) = false := decide_eq_false t1
    have hs : (Instr.slice 38 (.slice A m c) none (some (.int .i64 (n : Int))) none).run Try.prog w = .ok (.slice A n c) w := slice_toE Try.eU A m c n (by omega) w
    have H0 := Lib.hid (And.intro (h.take n (by omega)) (And.intro hnil (And.intro hml hlt)))
    clear h hc hml hnil hlt
    go_enter Try.func18, Try.ntmps18
    go_wp2_with (at_builtin; go_loud (refine wp_appE Try.eU (.const (.slice none 0 0)) (.tmp 13) w.heap.size (.slice none 0 0) [] (OwnE.nil _ _) (Nat.le_refl _) A n c (l.take n) H0.out.1 H0.out.2.1 (by have := H0.out.1.1; simp at this ⊢; omega) rfl rfl rfl rfl ?_; intro A6 n6 c6 w6 hG; have H6 := Lib.hid hG; clear hG))
    go_ret
    exact ⟨A6, n6, c6, rfl, H6.out.own, H6.out.below⟩
end Go.Proofs.Ytgkhhinjdojbhaa
namespace Go.Proofs.Ytgkhhinjdojbhaa
open Go.RowKit

def NdU2 (w : World) (f : NF) (n : Nd) : Prop := NdR (fun b => b < w.heap.size) NB2 w f n
theorem NdU2.below {w w' : World} {f : NF} {n : Nd} (h : NdU2 w f n) (hb : Below w.heap.size w w') : NdU2 w' f n :=
  (NdR.bel h hb (fun _ hb => hb)).mono (fun _ h => Nat.lt_of_lt_of_le h hb.size) (fun _ h => h)
theorem NdU2.of {w : World} {B : Nat} {f : NF} {n : Nd} (h : NdR (fun b => B ≤ b ∧ b < w.heap.size) NB w f n) : NdU2 w f n := h.mono (fun _ hb => hb.2) (fun _ h => h.two)
theorem NdU2.ofU {w : World} {f : NF} {n : Nd} (h : NdU w f n) : NdU2 w f n := NdR.mono h (fun _ hb => hb) (fun _ h => h.two)
theorem natV_int (v : Nat) : natV (intNd v) = v := by unfold natV; rw [(intNd_nat v).1, if_pos rfl, (intNd_nat v).2.1]
theorem dB64_len (v : Nat) : (dB 18446744073709551616 v).length ≤ (dB 4294967296 v).length := by
  refine dB_len (by omega) ?_
  rcases Nat.lt_or_ge v (18446744073709551616 ^ (dB 4294967296 v).length) with h | h
  · exact h
  · have h1 : (4294967296 : Nat) ^ (dB 4294967296 v).length ≤ 18446744073709551616 ^ (dB 4294967296 v).length := Nat.pow_le_pow_left (by omega) _
    have h2 : v / 4294967296 ^ (dB 4294967296 v).length ≠ 0 := by
      have := Nat.div_pos (show 4294967296 ^ (dB 4294967296 v).length ≤ v by omega) (Nat.pow_pos (by omega))
      omega
    have := (dB_lt (b := 4294967296) (by omega)).2 h2
    omega
theorem natV_len {n : Nd} (h : n.b.length ≤ 200) : (dB 4294967296 (natV n)).length ≤ 1000 := by
  have h1 : natV n < 4294967296 ^ 60 := by
    unfold natV
    split
    · have h2 := beVal_lt n.b
      have h3 : (256 : Nat) ^ n.b.length ≤ 4294967296 ^ 60 := by
        rw [show (4294967296 : Nat) = 256 ^ 4 from rfl, ← Nat.pow_mul]
        exact Nat.pow_le_pow_right (by omega) (by omega)
      omega
    · exact Nat.pow_pos (by omega)
  have := dB_len (b := 4294967296) (by omega) h1
  omega
theorem RdC.lt0 {α : Type} {E : ETy α} {w : World} {A : Option Addr} {m : Nat} {l : List α} (h : RdC E w A m l) (h0 : 0 < m) (a : Addr) (ha : A = some a) : a.block < w.heap.size := by
  obtain ⟨_, h2⟩ := h
  rcases h2 with h2 | ⟨g, off, e, hg, _⟩
  · omega
  · rw [ha] at e; injection e with e; subst e; exact hg
theorem RdC.turn0 {α : Type} {E : ETy α} {w w' : World} {S : List Nat} {A : Option Addr} {m : Nat} {l : List α} (h : RdC E w A m l) (ht : Turn S w w') (hn : ∀ a : Addr, 0 < m → A = some a → a.block ∉ S) : RdC E w' A m l :=
  h.keep0 ht.size (fun a h0 ha => ht.block _ (h.lt0 h0 a ha) (hn a h0 ha))
set_option maxRecDepth 100000 in
set_option maxHeartbeats 16000000 in
theorem derNumbers_any (Aa : Option Addr) (ma ca : Nat) (la : List UInt64) (Ab : Option Addr) (mb cb : Nat) (lb : List Int) (f : NF) (n : Nd) (w : World) (hN : NdI (fun b => b < w.heap.size) w f n)
    (ha : RdC Try.eU w Aa ma la) (hac : ma ≤ ca ∧ ca ≤ maxLen) (han : Aa = none → ca = 0) (hb : RdC Try.eI w Ab mb lb) (hbc : mb ≤ cb ∧ cb ≤ maxLen) :
    Calls Try.prog 5 #[.slice Aa ma ca, .slice Ab mb cb, f.val] w fun e w' => e = .returned (.bool true) ∧ Below w.heap.size w w' := by
  obtain ⟨t1, A1, n1, k1, A2, n2, k2⟩ := f
  obtain ⟨X, hX⟩ : ∃ X, w.heap.size = X := ⟨_, rfl⟩
  obtain ⟨w0, hw0⟩ : ∃ w0, w.alloc (.cells #[.int .i64 t1, .slice A1 n1 k1, .slice A2 n2 k2] 25) = w0 := ⟨_, rfl⟩
  have hb0 : Below w.heap.size w w0 := by rw [← hw0]; exact (Below.refl _ _).alloc (Nat.le_refl _) _
  have bX : Blk w0 X 25 #[.int .i64 t1, .slice A1 n1 k1, .slice A2 n2 k2] := by rw [← hw0, ← hX]; exact Blk.new _ _ _
  have hs0 : w0.heap.size = X + 1 := by rw [← hw0, ← hX]; simp
  have hbg := begun_any w0
  have hbX : ∀ a : Addr, 0 < mb → Ab = some a → a.block < X := fun a h0 e => by rw [← hX]; exact hb.lt0 h0 a e
  have HBX := Lib.hid hbX
  clear hbX
  have HC := Lib.hid (And.intro hac (And.intro han (And.intro hbc hX)))
  have HF1 := Lib.hid (And.intro (bX) (And.intro (ha.below hb0) (And.intro (hb.below hb0) (And.intro (hb0) (hN.bel hb0 (fun b hb => hb))))))
  clear bX hb0 hs0 hN ha hb hac han hbc
  simp only [NF.val]
  go_enter Try.func5, Try.ntmps5
  go_upto_region 1 with fail
  try rw [hX]
  try rw [hw0]
  clear hw0 hX
  go_wp2_with fail
  refine hbg.mono ?_
  rintro e w1 ⟨rfl, hb1⟩
  clear hbg
  have hN1 : NdI (fun b => b < w.heap.size) w1 ⟨t1, A1, n1, k1, A2, n2, k2⟩ n := (HF1.out.2.2.2.2).keep hb1.size (fun b hb => hb1.block b (by have := (HF1.out.2.2.2.1).size; omega))
  have HF2 := Lib.hid (And.intro ((HF1.out.1).below hb1) (And.intro ((HF1.out.2.1).below hb1) (And.intro ((HF1.out.2.2.1).below hb1) (And.intro ((HF1.out.2.2.2.1).trans ((hb1).mono (HF1.out.2.2.2.1).size)) (hN1)))))
  clear hb1 hN1
  have hcn := cutNat_any Aa ma ca la 12 w1 (HF2.out.2.1) HC.out.1 HC.out.2.1 (by omega)
  rw [show ((12 : Nat) : Int) = 12 from rfl] at hcn
  go_wp2_with fail
  refine hcn.mono ?_
  rintro e w2 ⟨A0, n0, c0, rfl, hO2, hb2⟩
  clear hcn
  have hN2 : NdI (fun b => b < w.heap.size) w2 ⟨t1, A1, n1, k1, A2, n2, k2⟩ n := (HF2.out.2.2.2.2).keep hb2.size (fun b hb => hb2.block b (by have := (HF2.out.2.2.2.1).size; omega))
  have HF3 := Lib.hid (And.intro ((HF2.out.1).below hb2) (And.intro ((HF2.out.2.2.1).below hb2) (And.intro ((HF2.out.2.2.2.1).trans ((hb2).mono (HF2.out.2.2.2.1).size)) (And.intro (hN2) (And.intro (hO2.rd) (And.intro (show ∀ a : Addr, A0 = some a → a.block ≠ X from fun a e => by have h9 := hO2.blk_le e; have h8 := (HF2.out.1).lt; have h7 := hb2.size; omega) (And.intro (And.intro (show n0 ≤ c0 ∧ c0 ≤ maxLen from hO2.max.2) (show A0 = none → c0 = 0 from hO2.nilc)) (show n0 ≤ 12 by have h9 := hO2.len; rw [List.length_take] at h9; omega))))))))
  clear hb2 hN2 hO2
  obtain ⟨M, hM⟩ : ∃ M, min mb 12 = M := ⟨_, rfl⟩
  have HMM := Lib.hid (show 0 < M → 0 < mb by omega)
  obtain ⟨q, hq⟩ : ∃ q, lb.take 12 = q := ⟨_, rfl⟩
  have hRb : RdC Try.eI w2 Ab M q := by
    rw [← hM, ← hq]
    rcases Nat.lt_or_ge mb 12 with h | h
    · rw [Nat.min_eq_left (by omega), List.take_of_length_le (by have := (HF3.out.2.1).1; omega)]; exact HF3.out.2.1
    · rw [Nat.min_eq_right h]; exact (HF3.out.2.1).take 12 h
  have HB := Lib.hid (And.intro (show M ≤ 12 by omega) (show M ≤ cb ∧ cb ≤ maxLen from ⟨by have := HC.out.2.2.1.1; omega, HC.out.2.2.1.2⟩))
  have HRb := Lib.hid hRb
  clear hq hRb
  have hmb63 : (mb : Int) ≤ 9223372036854775807 := by have h9 := HC.out.2.2.1; unfold maxLen at h9; omega
  go_upto_if 33 with fail
  go_cut [1] (fun s wx => s = .slice Ab M cb ∧ wx = w2)
  case first =>
    by_cases h12 : 12 < mb
    · have h12i : (12 : Int) < mb := by omega
      have h12d : decide ((12 : Int) < (mb : Int)) = true := decide_eq_true h12i
      obtain rfl : 12 = M := by omega
      have hs : (Instr.slice 39 (.slice Ab mb cb) none (some (.int .i64 12)) none).run Try.prog w2 = .ok (.slice Ab 12 cb) w2 := slice_toE Try.eI Ab mb cb 12 HB.out.2.1 w2
      clear hM
      go_wp2_with fail
      go_meet
      exact ⟨rfl, rfl⟩
    · have h12i : ¬ (12 : Int) < mb := by omega
      have h12d : decide ((12 : Int) < (mb : Int)) = false := decide_eq_false h12i
      obtain rfl : mb = M := by omega
      clear hM
      go_wp2_with fail
      go_meet
      exact ⟨rfl, rfl⟩
  case rest =>
    obtain ⟨rfl, hcut⟩ := hcut
    subst hcut
    obtain ⟨w2, hw2⟩ : ∃ w2, w2 = wc := ⟨_, rfl⟩
    subst hw2
    clear hM hmb63
    have HF4 := Lib.hid (And.intro (HF3.out.1) (And.intro (HRb.out) (And.intro (HF3.out.2.2.1) (And.intro (HF3.out.2.2.2.1) (And.intro (HF3.out.2.2.2.2.1) (And.intro (HF3.out.2.2.2.2.2.1) (And.intro (HF3.out.2.2.2.2.2.2.1) (HF3.out.2.2.2.2.2.2.2))))))))
    have hN2 : NdI (fun b => b < w2.heap.size) w2 ⟨t1, A1, n1, k1, A2, n2, k2⟩ n := (HF4.out.2.2.2.1).mono (fun b hb => by have := (HF4.out.2.2.1).size; omega)
    have hct := cut_any ⟨t1, A1, n1, k1, A2, n2, k2⟩ n w2 hN2
    simp only [NF.val] at hct
    obtain ⟨n', hn'⟩ : ∃ n', n.cut = n' := ⟨_, rfl⟩
    have hnb : n'.b.length ≤ 200 := by rw [← hn']; exact Nd.cut_b n
    rw [hn'] at hct
    have x0 := (HF4.out.1).cell 0
    have x1 := (HF4.out.1).cell 1
    have x2 := (HF4.out.1).cell 2
    simp only [List.getElem?_toArray, List.getElem?_cons_succ, List.getElem?_cons_zero] at x0 x1 x2
    have HNB := Lib.hid hnb
    clear hn' hnb hN2
    go_upto_region 6 with (first | (refine wpList_store_arr rfl 25 (.tmp 5) (.tmp 37) rfl X 25 _ [.int .i64 t4, .slice B1 m1 c1, .slice B2 m2 c2] HR.out rfl rfl (by kernel_rfl) rfl rfl ?_; intro w4 hB4 hT4; have H4 := Lib.hid (And.intro hB4 hT4); clear hB4 hT4) | (with_reducible refine hct.mono ?_; rintro e w3 ⟨⟨t4, B1, m1, c1, B2, m2, c2⟩, rfl, hN3, hb3⟩; have HN3 := Lib.hid (And.intro hN3 hb3); have HR := Lib.hid ((HF4.out.1).below hb3); simp only [NF.val]; clear hN3 hb3 hct x0 x1 x2))
    try simp only [Act.put]
    have hXw : X < w2.heap.size := (HF4.out.1).lt
    have hN4 : NdR (fun b => b < w4.heap.size) NB2 w4 ⟨t4, B1, m1, c1, B2, m2, c2⟩ n' := (HN3.out.1.turn H4.out.2 (fun b hb => ⟨hb.2, by have := hb.1; simp; omega⟩)).mono (fun b hb => by have := hb.2; have := H4.out.2.size; omega) (fun _ h => h)
    have hbw4 : Below w.heap.size w w4 := below_turn ((HF4.out.2.2.1).trans (HN3.out.2.mono (HF4.out.2.2.1).size)) H4.out.2 (fun t ht => by simp at ht; have := HC.out.2.2.2; omega) (by have h9 := (HF4.out.2.2.1).size; have h8 := HN3.out.2.size; omega)
    have hb4 : RdC Try.eI w4 Ab M q := ((HF4.out.2.1).below HN3.out.2).turn0 H4.out.2 (fun a h0 e => by have h9 := HBX.out a (HMM.out h0) e; simp; omega)
    have ha4 : RdC Try.eU w4 A0 n0 (la.take 12) := ((HF4.out.2.2.2.2.1).below HN3.out.2).turn0 H4.out.2 (fun a h0 e => by have h9 := (HF4.out.2.2.2.2.2.1) a e; simpa using h9)
    have HF5 := Lib.hid (And.intro (H4.out.1) (And.intro (hb4) (And.intro (hbw4) (And.intro ((show NdU2 w4 ⟨t4, B1, m1, c1, B2, m2, c2⟩ n' from hN4)) (And.intro (ha4) (And.intro (HF4.out.2.2.2.2.2.2.1) (HF4.out.2.2.2.2.2.2.2)))))))
    clear hN4 hbw4 hb4 ha4 hXw
    obtain ⟨lt, hlt⟩ : ∃ lt, la.take 12 = lt := ⟨_, rfl⟩
    obtain ⟨v, hv⟩ : ∃ v, valL lt = v := ⟨_, rfl⟩
    have hlen : lt.length ≤ 12 := by rw [← hlt, List.length_take]; omega
    have HV := Lib.hid (And.intro hv (show (dB 4294967296 v).length ≤ 1000 by have h9 := valL_lt32 lt; rw [hv] at h9; have h8 := dB_len (b := 4294967296) (by omega) h9; omega))
    have hfr := rfrom_any A0 n0 c0 (la.take 12) w4 (HF5.out.2.2.2.2.1) (by have := HF5.out.2.2.2.2.2.2; omega)
    rw [hlt] at hfr
    rw [hv] at hfr
    have HLT := Lib.hid hlt
    clear hlt hv hlen
    go_wp2_with fail
    refine hfr.mono ?_
    rintro e w5 ⟨A8, n8, rfl, hR8, hb5⟩
    clear hfr
    have HF6 := Lib.hid (And.intro ((HF5.out.1).below hb5) (And.intro ((HF5.out.2.1).below hb5) (And.intro ((HF5.out.2.2.1).trans ((hb5).mono (HF5.out.2.2.1).size)) (And.intro ((HF5.out.2.2.2.1).below hb5) (And.intro ((HF5.out.2.2.2.2.1).below hb5) (And.intro (HF5.out.2.2.2.2.2.1) (And.intro (HF5.out.2.2.2.2.2.2) (And.intro (hR8.1) ((show n8 ≤ 1000 by have h9 := hR8.1.1; have := HV.out.2; omega))))))))))
    clear hb5 hR8
    have hit := int_any A0 n0 c0 (la.take 12) w5 (HF6.out.2.2.2.2.1) (HF6.out.2.2.2.2.2.1).1 (HF6.out.2.2.2.2.2.1).2 (by have := HF6.out.2.2.2.2.2.2.1; omega)
    rw [HLT.out, HV.out.1] at hit
    go_wp2_with fail
    refine hit.mono ?_
    rintro e w6 ⟨⟨t9, D1, d1, e1, D2, d2, e2⟩, rfl, hN6, hb6⟩
    clear hit
    simp only [NF.val]
    have HF7 := Lib.hid (And.intro ((HF6.out.1).below hb6) (And.intro ((HF6.out.2.1).below hb6) (And.intro ((HF6.out.2.2.1).trans ((hb6).mono (HF6.out.2.2.1).size)) (And.intro ((HF6.out.2.2.2.1).below hb6) (And.intro ((HF6.out.2.2.2.2.2.2.2.1).below hb6) (And.intro (HF6.out.2.2.2.2.2.2.2.2) (NdU2.of hN6)))))))
    clear hb6 hN6
    obtain ⟨N9, hN9⟩ : ∃ N9, w6.heap.size = N9 := ⟨_, rfl⟩
    have bZ : Blk (w6.alloc (.cells #[.int .i64 0, .slice none 0 0, .slice none 0 0] 25)) N9 25 #[.int .i64 0, .slice none 0 0, .slice none 0 0] := by rw [← hN9]; exact Blk.new _ _ _
    have HZ := Lib.hid bZ
    clear bZ
    go_upto_region 8 with (refine wpList_store_arr rfl 25 (.tmp 9) (.tmp 41) rfl N9 25 _ [.int .i64 t9, .slice D1 d1 e1, .slice D2 d2 e2] HZ.out rfl rfl (by kernel_rfl) rfl rfl ?_; intro w7 hB hT; have HSN9 := Lib.hid (And.intro hB hT); clear hB hT)
    try simp only [Act.put]
    have hbs := boxed hN9 HSN9.out.2
    have HF8 := Lib.hid (And.intro ((HF7.out.1).below hbs) (And.intro ((HF7.out.2.1).below hbs) (And.intro ((HF7.out.2.2.1).trans ((hbs).mono (HF7.out.2.2.1).size)) (And.intro ((HF7.out.2.2.2.1).below hbs) (And.intro ((HF7.out.2.2.2.2.1).below hbs) (And.intro (HF7.out.2.2.2.2.2.1) (And.intro ((HF7.out.2.2.2.2.2.2).below hbs) (HSN9.out.1))))))))
    clear hbs hN9
    have y0 := (HF8.out.2.2.2.2.2.2.2).cell 0
    have y1 := (HF8.out.2.2.2.2.2.2.2).cell 1
    have y2 := (HF8.out.2.2.2.2.2.2.2).cell 2
    simp only [List.getElem?_toArray, List.getElem?_cons_succ, List.getElem?_cons_zero] at y0 y1 y2
    have hnt := nat_any _ _ (intNd v) ⟨t9, D1, d1, e1, D2, d2, e2⟩ w7 (HF8.out.2.2.2.2.2.2.1) (fun b hb => hb) (by rw [(intNd_nat v).2.2]; have h9 := bl_len32 v; have := HV.out.2; omega)
    simp only [NF.val] at hnt
    go_wp2_with fail
    refine hnt.mono ?_
    rintro e w8 ⟨hp, hb8⟩
    obtain ⟨A10, n10, c10, rfl, hR10⟩ := hp.uni
    rw [natV_int] at hR10
    rw [(intNd_nat v).1]
    clear hnt hp y0 y1 y2
    have HF9 := Lib.hid (And.intro ((HF8.out.1).below hb8) (And.intro ((HF8.out.2.1).below hb8) (And.intro ((HF8.out.2.2.1).trans ((hb8).mono (HF8.out.2.2.1).size)) (And.intro ((HF8.out.2.2.2.1).below hb8) (And.intro ((HF8.out.2.2.2.2.1).below hb8) (And.intro (HF8.out.2.2.2.2.2.1) (And.intro ((HF8.out.2.2.2.2.2.2.1).below hb8) (And.intro ((HF8.out.2.2.2.2.2.2.2).below hb8) (And.intro (hR10) ((show n10 ≤ 1000 by have h9 := hR10.1; have h8 := HV.out.2; have h7 := dB64_len v; omega)))))))))))
    clear hb8 hR10
    have y0 := (HF9.out.1).cell 0
    have y1 := (HF9.out.1).cell 1
    have y2 := (HF9.out.1).cell 2
    simp only [List.getElem?_toArray, List.getElem?_cons_succ, List.getElem?_cons_zero] at y0 y1 y2
    have hnt := nat_any _ _ n' ⟨t4, B1, m1, c1, B2, m2, c2⟩ w8 (HF9.out.2.2.2.1) (fun b hb => hb) (by have := HNB.out; omega)
    simp only [NF.val] at hnt
    obtain ⟨V, hV⟩ : ∃ V, natV n' = V := ⟨_, rfl⟩
    have HVL := Lib.hid (show (dB 4294967296 V).length ≤ 1000 by rw [← hV]; exact natV_len HNB.out)
    go_wp2_with fail
    refine hnt.mono ?_
    rintro e w9 ⟨hp, hb9⟩
    obtain ⟨A12, n12, c12, rfl, hR12⟩ := hp.uni
    rw [hV] at hR12
    have HVV := Lib.hid hV
    clear hnt hp y0 y1 y2 hV
    have HF10 := Lib.hid (And.intro ((HF9.out.1).below hb9) (And.intro ((HF9.out.2.1).below hb9) (And.intro ((HF9.out.2.2.1).trans ((hb9).mono (HF9.out.2.2.1).size)) (And.intro ((HF9.out.2.2.2.1).below hb9) (And.intro ((HF9.out.2.2.2.2.1).below hb9) (And.intro (HF9.out.2.2.2.2.2.1) (And.intro ((HF9.out.2.2.2.2.2.2.1).below hb9) (And.intro ((HF9.out.2.2.2.2.2.2.2.1).below hb9) (And.intro ((HF9.out.2.2.2.2.2.2.2.2.1).below hb9) (And.intro (HF9.out.2.2.2.2.2.2.2.2.2) (And.intro (hR12) ((show n12 ≤ 1000 by have h9 := hR12.1; have h8 := HVL.out; have h7 := dB64_len V; omega)))))))))))))
    clear hb9 hR12
    have y0 := (HF10.out.1).cell 0
    have y1 := (HF10.out.1).cell 1
    have y2 := (HF10.out.1).cell 2
    simp only [List.getElem?_toArray, List.getElem?_cons_succ, List.getElem?_cons_zero] at y0 y1 y2
    have hnt := rnat_any _ _ n' ⟨t4, B1, m1, c1, B2, m2, c2⟩ w9 (HF10.out.2.2.2.1) (fun b hb => hb) (by have := HNB.out; omega)
    simp only [NF.val] at hnt
    go_wp2_with fail
    refine hnt.mono ?_
    rintro e w10 ⟨hp, hb10⟩
    obtain ⟨A14, n14, c14, rfl, hR14⟩ := hp.uni
    rw [HVV.out] at hR14
    clear hnt hp y0 y1 y2
    obtain ⟨isn, hisn⟩ : ∃ isn, n'.isNat = isn := ⟨_, rfl⟩
    rw [hisn]
    clear hisn
    have HF11 := Lib.hid (And.intro ((HF10.out.1).below hb10) (And.intro ((HF10.out.2.1).below hb10) (And.intro ((HF10.out.2.2.1).trans ((hb10).mono (HF10.out.2.2.1).size)) (And.intro ((HF10.out.2.2.2.1).below hb10) (And.intro ((HF10.out.2.2.2.2.1).below hb10) (And.intro (HF10.out.2.2.2.2.2.1) (And.intro ((HF10.out.2.2.2.2.2.2.1).below hb10) (And.intro ((HF10.out.2.2.2.2.2.2.2.1).below hb10) (And.intro ((HF10.out.2.2.2.2.2.2.2.2.1).below hb10) (And.intro (HF10.out.2.2.2.2.2.2.2.2.2.1) (And.intro ((HF10.out.2.2.2.2.2.2.2.2.2.2.1).below hb10) (And.intro (HF10.out.2.2.2.2.2.2.2.2.2.2.2) (And.intro (hR14) ((show n14 ≤ 1000 by have h9 := hR14.1; have h8 := HVL.out; omega)))))))))))))))
    clear hb10 hR14
    have hod := oid_any Ab M cb q w10 (HF11.out.2.1) HB.out.2 (by have := HB.out.1; omega)
    obtain ⟨ok, hok⟩ : ∃ ok, oidOk q = ok := ⟨_, rfl⟩
    have HOK := Lib.hid hok
    go_wp2_with fail
    refine hod.mono ?_
    rintro e w11 ⟨hp, hb11⟩
    obtain ⟨⟨t16, E1, g1, i1, E2, g2, i2⟩, rfl, hN11⟩ := hp.uni
    rw [hok]
    clear hod hp hok
    simp only [NF.val]
    have HF12 := Lib.hid (And.intro ((HF11.out.1).below hb11) (And.intro ((HF11.out.2.1).below hb11) (And.intro ((HF11.out.2.2.1).trans ((hb11).mono (HF11.out.2.2.1).size)) (And.intro ((HF11.out.2.2.2.1).below hb11) (And.intro ((HF11.out.2.2.2.2.1).below hb11) (And.intro (HF11.out.2.2.2.2.2.1) (And.intro ((HF11.out.2.2.2.2.2.2.1).below hb11) (And.intro ((HF11.out.2.2.2.2.2.2.2.1).below hb11) (And.intro ((HF11.out.2.2.2.2.2.2.2.2.1).below hb11) (And.intro (HF11.out.2.2.2.2.2.2.2.2.2.1) (And.intro ((HF11.out.2.2.2.2.2.2.2.2.2.2.1).below hb11) (And.intro (HF11.out.2.2.2.2.2.2.2.2.2.2.2.1) (And.intro ((HF11.out.2.2.2.2.2.2.2.2.2.2.2.2.1).below hb11) (And.intro (HF11.out.2.2.2.2.2.2.2.2.2.2.2.2.2) (NdU2.ofU hN11)))))))))))))))
    clear hb11 hN11
    obtain ⟨N16, hN16⟩ : ∃ N16, w11.heap.size = N16 := ⟨_, rfl⟩
    have bZ : Blk (w11.alloc (.cells #[.int .i64 0, .slice none 0 0, .slice none 0 0] 25)) N16 25 #[.int .i64 0, .slice none 0 0, .slice none 0 0] := by rw [← hN16]; exact Blk.new _ _ _
    have HZ := Lib.hid bZ
    clear bZ
    go_upto_region 12 with (refine wpList_store_arr rfl 25 (.tmp 16) (.tmp 60) rfl N16 25 _ [.int .i64 t16, .slice E1 g1 i1, .slice E2 g2 i2] HZ.out rfl rfl (by kernel_rfl) rfl rfl ?_; intro w12 hB hT; have HSN16 := Lib.hid (And.intro hB hT); clear hB hT)
    try simp only [Act.put]
    have hbs := boxed hN16 HSN16.out.2
    have HF13 := Lib.hid (And.intro ((HF12.out.1).below hbs) (And.intro ((HF12.out.2.1).below hbs) (And.intro ((HF12.out.2.2.1).trans ((hbs).mono (HF12.out.2.2.1).size)) (And.intro ((HF12.out.2.2.2.1).below hbs) (And.intro ((HF12.out.2.2.2.2.1).below hbs) (And.intro (HF12.out.2.2.2.2.2.1) (And.intro ((HF12.out.2.2.2.2.2.2.1).below hbs) (And.intro ((HF12.out.2.2.2.2.2.2.2.1).below hbs) (And.intro ((HF12.out.2.2.2.2.2.2.2.2.1).below hbs) (And.intro (HF12.out.2.2.2.2.2.2.2.2.2.1) (And.intro ((HF12.out.2.2.2.2.2.2.2.2.2.2.1).below hbs) (And.intro (HF12.out.2.2.2.2.2.2.2.2.2.2.2.1) (And.intro ((HF12.out.2.2.2.2.2.2.2.2.2.2.2.2.1).below hbs) (And.intro (HF12.out.2.2.2.2.2.2.2.2.2.2.2.2.2.1) (And.intro ((HF12.out.2.2.2.2.2.2.2.2.2.2.2.2.2.2).below hbs) (HSN16.out.1))))))))))))))))
    clear hbs hN16
    have hod := roid_any Ab M cb q w12 (HF13.out.2.1) (by have := HB.out.1; omega)
    go_wp2_with fail
    refine hod.mono ?_
    rintro e w13 ⟨hp, hb13⟩
    obtain ⟨⟨t18, F1, p1, q1, F2, p2, q2⟩, rfl, hN13⟩ := hp.uni
    rw [HOK.out]
    clear hod hp
    simp only [NF.val]
    have HF14 := Lib.hid (And.intro ((HF13.out.1).below hb13) (And.intro ((HF13.out.2.1).below hb13) (And.intro ((HF13.out.2.2.1).trans ((hb13).mono (HF13.out.2.2.1).size)) (And.intro ((HF13.out.2.2.2.1).below hb13) (And.intro ((HF13.out.2.2.2.2.1).below hb13) (And.intro (HF13.out.2.2.2.2.2.1) (And.intro ((HF13.out.2.2.2.2.2.2.1).below hb13) (And.intro ((HF13.out.2.2.2.2.2.2.2.1).below hb13) (And.intro ((HF13.out.2.2.2.2.2.2.2.2.1).below hb13) (And.intro (HF13.out.2.2.2.2.2.2.2.2.2.1) (And.intro ((HF13.out.2.2.2.2.2.2.2.2.2.2.1).below hb13) (And.intro (HF13.out.2.2.2.2.2.2.2.2.2.2.2.1) (And.intro ((HF13.out.2.2.2.2.2.2.2.2.2.2.2.2.1).below hb13) (And.intro (HF13.out.2.2.2.2.2.2.2.2.2.2.2.2.2.1) (And.intro ((HF13.out.2.2.2.2.2.2.2.2.2.2.2.2.2.2.1).below hb13) (And.intro ((HF13.out.2.2.2.2.2.2.2.2.2.2.2.2.2.2.2).below hb13) (NdU2.ofU hN13)))))))))))))))))
    clear hb13 hN13
    obtain ⟨N18, hN18⟩ : ∃ N18, w13.heap.size = N18 := ⟨_, rfl⟩
    have bZ : Blk (w13.alloc (.cells #[.int .i64 0, .slice none 0 0, .slice none 0 0] 25)) N18 25 #[.int .i64 0, .slice none 0 0, .slice none 0 0] := by rw [← hN18]; exact Blk.new _ _ _
    have HZ := Lib.hid bZ
    clear bZ
    go_upto_region 13 with (refine wpList_store_arr rfl 25 (.tmp 18) (.tmp 65) rfl N18 25 _ [.int .i64 t18, .slice F1 p1 q1, .slice F2 p2 q2] HZ.out rfl rfl (by kernel_rfl) rfl rfl ?_; intro w14 hB hT; have HSN18 := Lib.hid (And.intro hB hT); clear hB hT)
    try simp only [Act.put]
    have hbs := boxed hN18 HSN18.out.2
    have HF15 := Lib.hid (And.intro ((HF14.out.1).below hbs) (And.intro ((HF14.out.2.1).below hbs) (And.intro ((HF14.out.2.2.1).trans ((hbs).mono (HF14.out.2.2.1).size)) (And.intro ((HF14.out.2.2.2.1).below hbs) (And.intro ((HF14.out.2.2.2.2.1).below hbs) (And.intro (HF14.out.2.2.2.2.2.1) (And.intro ((HF14.out.2.2.2.2.2.2.1).below hbs) (And.intro ((HF14.out.2.2.2.2.2.2.2.1).below hbs) (And.intro ((HF14.out.2.2.2.2.2.2.2.2.1).below hbs) (And.intro (HF14.out.2.2.2.2.2.2.2.2.2.1) (And.intro ((HF14.out.2.2.2.2.2.2.2.2.2.2.1).below hbs) (And.intro (HF14.out.2.2.2.2.2.2.2.2.2.2.2.1) (And.intro ((HF14.out.2.2.2.2.2.2.2.2.2.2.2.2.1).below hbs) (And.intro (HF14.out.2.2.2.2.2.2.2.2.2.2.2.2.2.1) (And.intro ((HF14.out.2.2.2.2.2.2.2.2.2.2.2.2.2.2.1).below hbs) (And.intro ((HF14.out.2.2.2.2.2.2.2.2.2.2.2.2.2.2.2.1).below hbs) (And.intro ((HF14.out.2.2.2.2.2.2.2.2.2.2.2.2.2.2.2.2).below hbs) (HSN18.out.1))))))))))))))))))
    clear hbs hN18
    have y0 := (HF15.out.1).cell 0
    have y1 := (HF15.out.1).cell 1
    have y2 := (HF15.out.1).cell 2
    simp only [List.getElem?_toArray, List.getElem?_cons_succ, List.getElem?_cons_zero] at y0 y1 y2
    have har := arcs_any _ _ n' ⟨t4, B1, m1, c1, B2, m2, c2⟩ w14 (HF15.out.2.2.2.1) (fun b hb => hb) (by have := HNB.out; omega)
    simp only [NF.val] at har
    go_wp2_with fail
    refine har.mono ?_
    rintro e w15 ⟨hp, hb15⟩
    obtain ⟨A20, n20, c20, rfl, hR20⟩ := hp.uni
    clear har hp y0 y1 y2
    have HF16 := Lib.hid (And.intro ((HF15.out.1).below hb15) (And.intro ((HF15.out.2.1).below hb15) (And.intro ((HF15.out.2.2.1).trans ((hb15).mono (HF15.out.2.2.1).size)) (And.intro ((HF15.out.2.2.2.1).below hb15) (And.intro ((HF15.out.2.2.2.2.1).below hb15) (And.intro (HF15.out.2.2.2.2.2.1) (And.intro ((HF15.out.2.2.2.2.2.2.1).below hb15) (And.intro ((HF15.out.2.2.2.2.2.2.2.1).below hb15) (And.intro ((HF15.out.2.2.2.2.2.2.2.2.1).below hb15) (And.intro (HF15.out.2.2.2.2.2.2.2.2.2.1) (And.intro ((HF15.out.2.2.2.2.2.2.2.2.2.2.1).below hb15) (And.intro (HF15.out.2.2.2.2.2.2.2.2.2.2.2.1) (And.intro ((HF15.out.2.2.2.2.2.2.2.2.2.2.2.2.1).below hb15) (And.intro (HF15.out.2.2.2.2.2.2.2.2.2.2.2.2.2.1) (And.intro ((HF15.out.2.2.2.2.2.2.2.2.2.2.2.2.2.2.1).below hb15) (And.intro ((HF15.out.2.2.2.2.2.2.2.2.2.2.2.2.2.2.2.1).below hb15) (And.intro ((HF15.out.2.2.2.2.2.2.2.2.2.2.2.2.2.2.2.2.1).below hb15) (And.intro ((HF15.out.2.2.2.2.2.2.2.2.2.2.2.2.2.2.2.2.2).below hb15) (hR20)))))))))))))))))))
    clear hb15 hR20
    have y0 := (HF16.out.1).cell 0
    have y1 := (HF16.out.1).cell 1
    have y2 := (HF16.out.1).cell 2
    simp only [List.getElem?_toArray, List.getElem?_cons_succ, List.getElem?_cons_zero] at y0 y1 y2
    have har := rarcs_any _ _ n' ⟨t4, B1, m1, c1, B2, m2, c2⟩ w15 (HF16.out.2.2.2.1) (fun b hb => hb) (by have := HNB.out; omega)
    simp only [NF.val] at har
    go_wp2_with fail
    refine har.mono ?_
    rintro e w16 ⟨hp, hb16⟩
    obtain ⟨A22, n22, c22, rfl, hR22⟩ := hp.uni
    clear har hp y0 y1 y2
    obtain rfl : n20 = n22 := by have h9 := hR22.1; have h8 := (HF16.out.2.2.2.2.2.2.2.2.2.2.2.2.2.2.2.2.2.2).1; omega
    have hn20 : n20 ≤ 1000 := by have h9 := hR22.1; have h8 := Nd.arcs_len (n := n') (by have := HNB.out; omega); omega
    obtain ⟨arl, harl⟩ : ∃ arl, n'.arcs.getD [] = arl := ⟨_, rfl⟩
    obtain ⟨isa, hisa⟩ : ∃ isa, n'.arcs.isSome = isa := ⟨_, rfl⟩
    rw [harl] at hR22
    rw [hisa]
    have HAL := Lib.hid harl
    clear harl hisa
    have HF17 := Lib.hid (And.intro ((HF16.out.1).below hb16) (And.intro ((HF16.out.2.1).below hb16) (And.intro ((HF16.out.2.2.1).trans ((hb16).mono (HF16.out.2.2.1).size)) (And.intro ((HF16.out.2.2.2.1).below hb16) (And.intro ((HF16.out.2.2.2.2.1).below hb16) (And.intro (HF16.out.2.2.2.2.2.1) (And.intro ((HF16.out.2.2.2.2.2.2.1).below hb16) (And.intro ((HF16.out.2.2.2.2.2.2.2.1).below hb16) (And.intro ((HF16.out.2.2.2.2.2.2.2.2.1).below hb16) (And.intro (HF16.out.2.2.2.2.2.2.2.2.2.1) (And.intro ((HF16.out.2.2.2.2.2.2.2.2.2.2.1).below hb16) (And.intro (HF16.out.2.2.2.2.2.2.2.2.2.2.2.1) (And.intro ((HF16.out.2.2.2.2.2.2.2.2.2.2.2.2.1).below hb16) (And.intro (HF16.out.2.2.2.2.2.2.2.2.2.2.2.2.2.1) (And.intro ((HF16.out.2.2.2.2.2.2.2.2.2.2.2.2.2.2.1).below hb16) (And.intro ((HF16.out.2.2.2.2.2.2.2.2.2.2.2.2.2.2.2.1).below hb16) (And.intro ((HF16.out.2.2.2.2.2.2.2.2.2.2.2.2.2.2.2.2.1).below hb16) (And.intro ((HF16.out.2.2.2.2.2.2.2.2.2.2.2.2.2.2.2.2.2.1).below hb16) (And.intro ((HF16.out.2.2.2.2.2.2.2.2.2.2.2.2.2.2.2.2.2.2).below hb16) (hR22))))))))))))))))))))
    clear hb16 hR22
    have x0 := (HF17.out.1).cell 0
    have x1 := (HF17.out.1).cell 1
    have x2 := (HF17.out.1).cell 2
    simp only [List.getElem?_toArray, List.getElem?_cons_succ, List.getElem?_cons_zero] at x0 x1 x2
    have y0 := (HF17.out.2.2.2.2.2.2.2.1).cell 0
    have y1 := (HF17.out.2.2.2.2.2.2.2.1).cell 1
    have y2 := (HF17.out.2.2.2.2.2.2.2.1).cell 2
    simp only [List.getElem?_toArray, List.getElem?_cons_succ, List.getElem?_cons_zero] at y0 y1 y2
    have z0 := (HF17.out.2.2.2.2.2.2.2.2.2.2.2.2.2.2.2.1).cell 0
    have z1 := (HF17.out.2.2.2.2.2.2.2.2.2.2.2.2.2.2.2.1).cell 1
    have z2 := (HF17.out.2.2.2.2.2.2.2.2.2.2.2.2.2.2.2.1).cell 2
    simp only [List.getElem?_toArray, List.getElem?_cons_succ, List.getElem?_cons_zero] at z0 z1 z2
    have u0 := (HF17.out.2.2.2.2.2.2.2.2.2.2.2.2.2.2.2.2.2.1).cell 0
    have u1 := (HF17.out.2.2.2.2.2.2.2.2.2.2.2.2.2.2.2.2.2.1).cell 1
    have u2 := (HF17.out.2.2.2.2.2.2.2.2.2.2.2.2.2.2.2.2.2.1).cell 2
    simp only [List.getElem?_toArray, List.getElem?_cons_succ, List.getElem?_cons_zero] at u0 u1 u2
    have HCY := Lib.hid (And.intro y0 (And.intro y1 y2))
    have HCZ := Lib.hid (And.intro z0 (And.intro z1 z2))
    have HCU := Lib.hid (And.intro u0 (And.intro u1 u2))
    clear x0 x1 x2 y0 y1 y2 z0 z1 z2 u0 u1 u2
    go_wp2_with fail
    refine region_old (by kernel_rfl) (fun wd hHeld hSz => ?_)
    have HSz := Lib.hid hSz
    clear hSz
    refine takeL (i := 0) (v := ?_) rfl (by kernel_rfl) (by kernel_rfl) (by kernel_rfl) (fun _ _ _ h => h) (Or.inl ⟨by rfl, ?_⟩) hHeld ?_
    rotate_left
    focus (intro wq hSw; obtain ⟨h0, h1, h2⟩ := HCY.out; have e0 := cell_old hSw h0; have e1 := cell_old hSw h1; have e2 := cell_old hSw h2; clear h0 h1 h2; clear hSw; go_simp; try with_reducible rfl)
    try simp only [Act.put, List.setIfInBounds_toArray, List.set_cons_zero, List.set_cons_succ]
    refine takeL (i := 1) (v := ?_) rfl (by kernel_rfl) (by kernel_rfl) (by kernel_rfl) (fun _ _ _ h => h) (Or.inl ⟨by rfl, ?_⟩) hHeld ?_
    rotate_left
    focus (intro wq hSw; clear hSw; go_simp; try with_reducible rfl)
    try simp only [Act.put, List.setIfInBounds_toArray, List.set_cons_zero, List.set_cons_succ]
    refine wpAnyH_ready (rs := [2]) (by kernel_rfl) (by simp) ?_
    refine consL rfl (fun K hK => ?_) AllReadyH.nil
    go_simp
    refine (rint_any A8 n8 n8 v _ ((HF17.out.2.2.2.2.1).below hHeld) (by have := HF17.out.2.2.2.2.2.1; omega)).mono ?_
    rintro e w17 ⟨⟨t17, G1, r1, s1, G2, r2, s2⟩, rfl, hN17, hb'⟩
    have hb' := Old.trans hHeld hb'
    have HN17 := Lib.hid (NdU2.of hN17)
    clear hN17
    simp only [NF.val]
    refine hK.out _ _ hb' (fun hHeld => ?_)
    clear hK K
    try simp only [Act.put, List.setIfInBounds_toArray, List.set_cons_zero, List.set_cons_succ]
    refine wpAnyH_ready (rs := [3]) (by kernel_rfl) (by simp) ?_
    refine consL rfl (fun K hK => ?_) AllReadyH.nil
    go_simp
    have hm := eq_any _ _ _ _ (intNd v) ⟨t9, D1, d1, e1, D2, d2, e2⟩ ⟨t17, G1, r1, s1, G2, r2, s2⟩ w17 ((HF17.out.2.2.2.2.2.2.1).below hHeld) HN17.out (fun b hb => hb) (fun b hb => hb)
    simp only [NF.val] at hm
    refine hm.mono ?_
    rintro e w18 ⟨rfl, hb'⟩
    clear hm
    have hb' := Old.trans hHeld hb'
    refine hK.out _ _ hb' (fun hHeld => ?_)
    clear hK K
    try simp only [Act.put, List.setIfInBounds_toArray, List.set_cons_zero, List.set_cons_succ]
    refine takeL (i := 4) (v := ?_) rfl (by kernel_rfl) (by kernel_rfl) (by kernel_rfl) (fun _ _ _ h => h) (Or.inl ⟨by rfl, ?_⟩) hHeld ?_
    rotate_left
    focus (intro wq hSw; clear hSw; go_simp; try with_reducible rfl)
    try simp only [Act.put, List.setIfInBounds_toArray, List.set_cons_zero, List.set_cons_succ]
    refine takeL (i := 5) (v := ?_) rfl (by kernel_rfl) (by kernel_rfl) (by kernel_rfl) (fun _ _ _ h => h) (Or.inl ⟨by rfl, ?_⟩) hHeld ?_
    rotate_left
    focus (intro wq hSw; clear hSw; go_simp; try with_reducible rfl)
    try simp only [Act.put, List.setIfInBounds_toArray, List.set_cons_zero, List.set_cons_succ]
    refine takeL (i := 6) (v := ?_) rfl (by kernel_rfl) (by kernel_rfl) (by kernel_rfl) (fun _ _ _ h => h) (Or.inl ⟨by rfl, ?_⟩) hHeld ?_
    rotate_left
    focus (intro wq hSw; clear hSw; go_simp; try with_reducible rfl)
    try simp only [Act.put, List.setIfInBounds_toArray, List.set_cons_zero, List.set_cons_succ]
    refine takeL (i := 7) (v := ?_) rfl (by kernel_rfl) (by kernel_rfl) (by kernel_rfl) (fun _ _ _ h => h) (Or.inl ⟨by rfl, ?_⟩) hHeld ?_
    rotate_left
    focus (intro wq hSw; clear hSw; go_simp; try with_reducible rfl)
    try simp only [Act.put, List.setIfInBounds_toArray, List.set_cons_zero, List.set_cons_succ]
    refine takeL (i := 8) (v := ?_) rfl (by kernel_rfl) (by kernel_rfl) (by kernel_rfl) (fun _ _ _ h => h) (Or.inl ⟨by rfl, ?_⟩) hHeld ?_
    rotate_left
    focus (intro wq hSw; clear hSw; go_simp; try with_reducible rfl)
    try simp only [Act.put, List.setIfInBounds_toArray, List.set_cons_zero, List.set_cons_succ]
    refine takeL (i := 9) (v := ?_) rfl (by kernel_rfl) (by kernel_rfl) (by kernel_rfl) (fun _ _ _ h => h) (Or.inl ⟨by rfl, ?_⟩) hHeld ?_
    rotate_left
    focus (intro wq hSw; clear hSw; go_simp; try with_reducible rfl)
    try simp only [Act.put, List.setIfInBounds_toArray, List.set_cons_zero, List.set_cons_succ]
    refine takeL (i := 10) (v := ?_) rfl (by kernel_rfl) (by kernel_rfl) (by kernel_rfl) (fun _ _ _ h => h) (Or.inl ⟨by rfl, ?_⟩) hHeld ?_
    rotate_left
    focus (intro wq hSw; clear hSw; go_simp; try with_reducible rfl)
    try simp only [Act.put, List.setIfInBounds_toArray, List.set_cons_zero, List.set_cons_succ]
    refine takeL (i := 11) (v := ?_) rfl (by kernel_rfl) (by kernel_rfl) (by kernel_rfl) (fun _ _ _ h => h) (Or.inl ⟨by rfl, ?_⟩) hHeld ?_
    rotate_left
    focus (intro wq hSw; clear hSw; go_simp; try with_reducible rfl)
    try simp only [Act.put, List.setIfInBounds_toArray, List.set_cons_zero, List.set_cons_succ]
    refine wpAnyH_ready (rs := [12]) (by kernel_rfl) (by simp) ?_
    refine consL rfl (fun K hK => ?_) AllReadyH.nil
    go_simp
    refine (ris_any A10 n10 c10 A8 n8 n8 v _ ((HF17.out.2.2.2.2.2.2.2.2.1).below hHeld) ((HF17.out.2.2.2.2.1).below hHeld) (by have := HF17.out.2.2.2.2.2.2.2.2.2.1; omega) (by have := HF17.out.2.2.2.2.2.1; omega)).mono ?_
    rintro e w19 ⟨rfl, hb'⟩
    have hb' := Old.trans hHeld hb'
    refine hK.out _ _ hb' (fun hHeld => ?_)
    clear hK K
    try simp only [Act.put, List.setIfInBounds_toArray, List.set_cons_zero, List.set_cons_succ]
    refine takeL (i := 13) (v := ?_) rfl (by kernel_rfl) (by kernel_rfl) (by kernel_rfl) (fun _ _ _ h => h) (Or.inl ⟨by rfl, ?_⟩) hHeld ?_
    rotate_left
    focus (intro wq hSw; clear hSw; go_simp; try with_reducible rfl)
    try simp only [Act.put, List.setIfInBounds_toArray, List.set_cons_zero, List.set_cons_succ]
    refine takeL (i := 14) (v := ?_) rfl (by kernel_rfl) (by kernel_rfl) (by kernel_rfl) (fun _ _ _ h => h) (Or.inl ⟨by rfl, ?_⟩) hHeld ?_
    rotate_left
    focus (intro wq hSw; clear hSw; go_simp; try with_reducible rfl)
    try simp only [Act.put, List.setIfInBounds_toArray, List.set_cons_zero, List.set_cons_succ]
    refine takeL (i := 15) (v := ?_) rfl (by kernel_rfl) (by kernel_rfl) (by kernel_rfl) (fun _ _ _ h => h) (Or.inl ⟨by rfl, ?_⟩) hHeld ?_
    rotate_left
    focus (intro wq hSw; clear hSw; go_simp; try with_reducible rfl)
    try simp only [Act.put, List.setIfInBounds_toArray, List.set_cons_zero, List.set_cons_succ]
    refine takeL (i := 16) (v := ?_) rfl (by kernel_rfl) (by kernel_rfl) (by kernel_rfl) (fun _ _ _ h => h) (Or.inl ⟨by rfl, ?_⟩) hHeld ?_
    rotate_left
    focus (intro wq hSw; clear hSw; go_simp; try with_reducible rfl)
    try simp only [Act.put, List.setIfInBounds_toArray, List.set_cons_zero, List.set_cons_succ]
    refine takeL (i := 17) (v := ?_) rfl (by kernel_rfl) (by kernel_rfl) (by kernel_rfl) (fun _ _ _ h => h) (Or.inl ⟨by rfl, ?_⟩) hHeld ?_
    rotate_left
    focus (intro wq hSw; clear hSw; go_simp; try with_reducible rfl)
    try simp only [Act.put, List.setIfInBounds_toArray, List.set_cons_zero, List.set_cons_succ]
    refine takeL (i := 18) (v := ?_) rfl (by kernel_rfl) (by kernel_rfl) (by kernel_rfl) (fun _ _ _ h => h) (Or.inl ⟨by rfl, ?_⟩) hHeld ?_
    rotate_left
    focus (intro wq hSw; clear hSw; go_simp; try with_reducible rfl)
    try simp only [Act.put, List.setIfInBounds_toArray, List.set_cons_zero, List.set_cons_succ]
    refine takeL (i := 19) (v := ?_) rfl (by kernel_rfl) (by kernel_rfl) (by kernel_rfl) (fun _ _ _ h => h) (Or.inl ⟨by rfl, ?_⟩) hHeld ?_
    rotate_left
    focus (intro wq hSw; clear hSw; go_simp; try with_reducible rfl)
    try simp only [Act.put, List.setIfInBounds_toArray, List.set_cons_zero, List.set_cons_succ]
    refine takeL (i := 20) (v := ?_) rfl (by kernel_rfl) (by kernel_rfl) (by kernel_rfl) (fun _ _ _ h => h) (Or.inl ⟨by rfl, ?_⟩) hHeld ?_
    rotate_left
    focus (intro wq hSw; clear hSw; go_simp; try with_reducible rfl)
    try simp only [Act.put, List.setIfInBounds_toArray, List.set_cons_zero, List.set_cons_succ]
    refine takeL (i := 21) (v := ?_) rfl (by kernel_rfl) (by kernel_rfl) (by kernel_rfl) (fun _ _ _ h => h) (Or.inl ⟨by rfl, ?_⟩) hHeld ?_
    rotate_left
    focus (intro wq hSw; clear hSw; go_simp; try with_reducible rfl)
    try simp only [Act.put, List.setIfInBounds_toArray, List.set_cons_zero, List.set_cons_succ]
    refine takeL (i := 22) (v := ?_) rfl (by kernel_rfl) (by kernel_rfl) (by kernel_rfl) (fun _ _ _ h => h) (Or.inl ⟨by rfl, ?_⟩) hHeld ?_
    rotate_left
    focus (intro wq hSw; clear hSw; go_simp; try with_reducible rfl)
    try simp only [Act.put, List.setIfInBounds_toArray, List.set_cons_zero, List.set_cons_succ]
    refine wpAnyH_ready (rs := [23]) (by kernel_rfl) (by simp) ?_
    refine consL rfl (fun K hK => ?_) AllReadyH.nil
    go_simp
    refine (ris_any A12 n12 c12 A14 n14 c14 V _ ((HF17.out.2.2.2.2.2.2.2.2.2.2.1).below hHeld) ((HF17.out.2.2.2.2.2.2.2.2.2.2.2.2.1).below hHeld) (by have := HF17.out.2.2.2.2.2.2.2.2.2.2.2.1; omega) (by have := HF17.out.2.2.2.2.2.2.2.2.2.2.2.2.2.1; omega)).mono ?_
    rintro e w20 ⟨rfl, hb'⟩
    have hb' := Old.trans hHeld hb'
    refine hK.out _ _ hb' (fun hHeld => ?_)
    clear hK K
    try simp only [Act.put, List.setIfInBounds_toArray, List.set_cons_zero, List.set_cons_succ]
    refine takeL (i := 24) (v := ?_) rfl (by kernel_rfl) (by kernel_rfl) (by kernel_rfl) (fun _ _ _ h => h) (Or.inl ⟨by rfl, ?_⟩) hHeld ?_
    rotate_left
    focus (intro wq hSw; clear hSw; go_simp; try with_reducible rfl)
    try simp only [Act.put, List.setIfInBounds_toArray, List.set_cons_zero, List.set_cons_succ]
    refine takeL (i := 25) (v := ?_) rfl (by kernel_rfl) (by kernel_rfl) (by kernel_rfl) (fun _ _ _ h => h) (Or.inl ⟨by rfl, ?_⟩) hHeld ?_
    rotate_left
    focus (intro wq hSw; clear hSw; go_simp; try with_reducible rfl)
    try simp only [Act.put, List.setIfInBounds_toArray, List.set_cons_zero, List.set_cons_succ]
    refine takeL (i := 26) (v := ?_) rfl (by kernel_rfl) (by kernel_rfl) (by kernel_rfl) (fun _ _ _ h => h) (Or.inl ⟨by rfl, ?_⟩) hHeld ?_
    rotate_left
    focus (intro wq hSw; clear hSw; go_simp; try with_reducible rfl)
    try simp only [Act.put, List.setIfInBounds_toArray, List.set_cons_zero, List.set_cons_succ]
    refine takeL (i := 27) (v := ?_) rfl (by kernel_rfl) (by kernel_rfl) (by kernel_rfl) (fun _ _ _ h => h) (Or.inl ⟨by rfl, ?_⟩) hHeld ?_
    rotate_left
    focus (intro wq hSw; clear hSw; go_simp; try with_reducible rfl)
    try simp only [Act.put, List.setIfInBounds_toArray, List.set_cons_zero, List.set_cons_succ]
    refine takeL (i := 28) (v := ?_) rfl (by kernel_rfl) (by kernel_rfl) (by kernel_rfl) (fun _ _ _ h => h) (Or.inl ⟨by rfl, ?_⟩) hHeld ?_
    rotate_left
    focus (intro wq hSw; clear hSw; go_simp; try with_reducible rfl)
    try simp only [Act.put, List.setIfInBounds_toArray, List.set_cons_zero, List.set_cons_succ]
    refine takeL (i := 29) (v := ?_) rfl (by kernel_rfl) (by kernel_rfl) (by kernel_rfl) (fun _ _ _ h => h) (Or.inl ⟨by rfl, ?_⟩) hHeld ?_
    rotate_left
    focus (intro wq hSw; clear hSw; go_simp; try with_reducible rfl)
    try simp only [Act.put, List.setIfInBounds_toArray, List.set_cons_zero, List.set_cons_succ]
    refine takeL (i := 30) (v := ?_) rfl (by kernel_rfl) (by kernel_rfl) (by kernel_rfl) (fun _ _ _ h => h) (Or.inl ⟨by rfl, ?_⟩) hHeld ?_
    rotate_left
    focus (intro wq hSw; clear hSw; go_simp; try with_reducible rfl)
    try simp only [Act.put, List.setIfInBounds_toArray, List.set_cons_zero, List.set_cons_succ]
    refine takeL (i := 31) (v := ?_) rfl (by kernel_rfl) (by kernel_rfl) (by kernel_rfl) (fun _ _ _ h => h) (Or.inl ⟨by rfl, ?_⟩) hHeld ?_
    rotate_left
    focus (intro wq hSw; clear hSw; go_simp; try with_reducible rfl)
    try simp only [Act.put, List.setIfInBounds_toArray, List.set_cons_zero, List.set_cons_succ]
    refine takeL (i := 32) (v := ?_) rfl (by kernel_rfl) (by kernel_rfl) (by kernel_rfl) (fun _ _ _ h => h) (Or.inl ⟨by rfl, ?_⟩) hHeld ?_
    rotate_left
    focus (intro wq hSw; obtain ⟨h0, h1, h2⟩ := HCZ.out; have e0 := cell_old hSw h0; have e1 := cell_old hSw h1; have e2 := cell_old hSw h2; clear h0 h1 h2; clear hSw; go_simp; try with_reducible rfl)
    try simp only [Act.put, List.setIfInBounds_toArray, List.set_cons_zero, List.set_cons_succ]
    refine takeL (i := 33) (v := ?_) rfl (by kernel_rfl) (by kernel_rfl) (by kernel_rfl) (fun _ _ _ h => h) (Or.inl ⟨by rfl, ?_⟩) hHeld ?_
    rotate_left
    focus (intro wq hSw; obtain ⟨h0, h1, h2⟩ := HCU.out; have e0 := cell_old hSw h0; have e1 := cell_old hSw h1; have e2 := cell_old hSw h2; clear h0 h1 h2; clear hSw; go_simp; try with_reducible rfl)
    try simp only [Act.put, List.setIfInBounds_toArray, List.set_cons_zero, List.set_cons_succ]
    refine wpAnyH_ready (rs := [34]) (by kernel_rfl) (by simp) ?_
    refine consL rfl (fun K hK => ?_) AllReadyH.nil
    go_simp
    have hm := eq_any _ _ _ _ (oidN q) ⟨t16, E1, g1, i1, E2, g2, i2⟩ ⟨t18, F1, p1, q1, F2, p2, q2⟩ w20 ((HF17.out.2.2.2.2.2.2.2.2.2.2.2.2.2.2.1).below hHeld) ((HF17.out.2.2.2.2.2.2.2.2.2.2.2.2.2.2.2.2.1).below hHeld) (fun b hb => hb) (fun b hb => hb)
    simp only [NF.val] at hm
    refine hm.mono ?_
    rintro e w21 ⟨rfl, hb'⟩
    clear hm
    have hb' := Old.trans hHeld hb'
    refine hK.out _ _ hb' (fun hHeld => ?_)
    clear hK K
    try simp only [Act.put, List.setIfInBounds_toArray, List.set_cons_zero, List.set_cons_succ]
    refine takeL (i := 35) (v := ?_) rfl (by kernel_rfl) (by kernel_rfl) (by kernel_rfl) (fun _ _ _ h => h) (Or.inl ⟨by rfl, ?_⟩) hHeld ?_
    rotate_left
    focus (intro wq hSw; clear hSw; go_simp; try with_reducible rfl)
    try simp only [Act.put, List.setIfInBounds_toArray, List.set_cons_zero, List.set_cons_succ]
    refine takeL (i := 36) (v := ?_) rfl (by kernel_rfl) (by kernel_rfl) (by kernel_rfl) (fun _ _ _ h => h) (Or.inl ⟨by rfl, ?_⟩) hHeld ?_
    rotate_left
    focus (intro wq hSw; clear hSw; go_simp; try with_reducible rfl)
    try simp only [Act.put, List.setIfInBounds_toArray, List.set_cons_zero, List.set_cons_succ]
    refine takeL (i := 37) (v := ?_) rfl (by kernel_rfl) (by kernel_rfl) (by kernel_rfl) (fun _ _ _ h => h) (Or.inl ⟨by rfl, ?_⟩) hHeld ?_
    rotate_left
    focus (intro wq hSw; clear hSw; go_simp; try with_reducible rfl)
    try simp only [Act.put, List.setIfInBounds_toArray, List.set_cons_zero, List.set_cons_succ]
    refine takeL (i := 38) (v := ?_) rfl (by kernel_rfl) (by kernel_rfl) (by kernel_rfl) (fun _ _ _ h => h) (Or.inl ⟨by rfl, ?_⟩) hHeld ?_
    rotate_left
    focus (intro wq hSw; clear hSw; go_simp; try with_reducible rfl)
    try simp only [Act.put, List.setIfInBounds_toArray, List.set_cons_zero, List.set_cons_succ]
    refine takeL (i := 39) (v := ?_) rfl (by kernel_rfl) (by kernel_rfl) (by kernel_rfl) (fun _ _ _ h => h) (Or.inl ⟨by rfl, ?_⟩) hHeld ?_
    rotate_left
    focus (intro wq hSw; clear hSw; go_simp; try with_reducible rfl)
    try simp only [Act.put, List.setIfInBounds_toArray, List.set_cons_zero, List.set_cons_succ]
    refine takeL (i := 40) (v := ?_) rfl (by kernel_rfl) (by kernel_rfl) (by kernel_rfl) (fun _ _ _ h => h) (Or.inl ⟨by rfl, ?_⟩) hHeld ?_
    rotate_left
    focus (intro wq hSw; clear hSw; go_simp; try with_reducible rfl)
    try simp only [Act.put, List.setIfInBounds_toArray, List.set_cons_zero, List.set_cons_succ]
    refine takeL (i := 41) (v := ?_) rfl (by kernel_rfl) (by kernel_rfl) (by kernel_rfl) (fun _ _ _ h => h) (Or.inl ⟨by rfl, ?_⟩) hHeld ?_
    rotate_left
    focus (intro wq hSw; clear hSw; go_simp; try with_reducible rfl)
    try simp only [Act.put, List.setIfInBounds_toArray, List.set_cons_zero, List.set_cons_succ]
    refine takeL (i := 42) (v := ?_) rfl (by kernel_rfl) (by kernel_rfl) (by kernel_rfl) (fun _ _ _ h => h) (Or.inl ⟨by rfl, ?_⟩) hHeld ?_
    rotate_left
    focus (intro wq hSw; clear hSw; go_simp; try with_reducible rfl)
    try simp only [Act.put, List.setIfInBounds_toArray, List.set_cons_zero, List.set_cons_succ]
    refine takeL (i := 43) (v := ?_) rfl (by kernel_rfl) (by kernel_rfl) (by kernel_rfl) (fun _ _ _ h => h) (Or.inl ⟨by rfl, ?_⟩) hHeld ?_
    rotate_left
    focus (intro wq hSw; clear hSw; go_simp; try with_reducible rfl)
    try simp only [Act.put, List.setIfInBounds_toArray, List.set_cons_zero, List.set_cons_succ]
    refine takeL (i := 44) (v := ?_) rfl (by kernel_rfl) (by kernel_rfl) (by kernel_rfl) (fun _ _ _ h => h) (Or.inl ⟨by rfl, ?_⟩) hHeld ?_
    rotate_left
    focus (intro wq hSw; clear hSw; go_simp; try with_reducible rfl)
    try simp only [Act.put, List.setIfInBounds_toArray, List.set_cons_zero, List.set_cons_succ]
    refine takeL (i := 45) (v := ?_) rfl (by kernel_rfl) (by kernel_rfl) (by kernel_rfl) (fun _ _ _ h => h) (Or.inl ⟨by rfl, ?_⟩) hHeld ?_
    rotate_left
    focus (intro wq hSw; clear hSw; go_simp; try with_reducible rfl)
    try simp only [Act.put, List.setIfInBounds_toArray, List.set_cons_zero, List.set_cons_succ]
    refine takeL (i := 46) (v := ?_) rfl (by kernel_rfl) (by kernel_rfl) (by kernel_rfl) (fun _ _ _ h => h) (Or.inl ⟨by rfl, ?_⟩) hHeld ?_
    rotate_left
    focus (intro wq hSw; clear hSw; go_simp; try with_reducible rfl)
    try simp only [Act.put, List.setIfInBounds_toArray, List.set_cons_zero, List.set_cons_succ]
    refine takeL (i := 47) (v := ?_) rfl (by kernel_rfl) (by kernel_rfl) (by kernel_rfl) (fun _ _ _ h => h) (Or.inl ⟨by rfl, ?_⟩) hHeld ?_
    rotate_left
    focus (intro wq hSw; clear hSw; go_simp; try with_reducible rfl)
    try simp only [Act.put, List.setIfInBounds_toArray, List.set_cons_zero, List.set_cons_succ]
    refine takeL (i := 48) (v := ?_) rfl (by kernel_rfl) (by kernel_rfl) (by kernel_rfl) (fun _ _ _ h => h) (Or.inl ⟨by rfl, ?_⟩) hHeld ?_
    rotate_left
    focus (intro wq hSw; clear hSw; go_simp; try with_reducible rfl)
    try simp only [Act.put, List.setIfInBounds_toArray, List.set_cons_zero, List.set_cons_succ]
    refine wpAnyH_done (by kernel_rfl) ?_ _
    refine NoPanic.normal ?_
    try simp only [Exit.then]
    have HF18 := Lib.hid (And.intro ((HF17.out.1).below hHeld) (And.intro ((HF17.out.2.1).below hHeld) (And.intro ((HF17.out.2.2.1).trans ((hHeld).mono (HF17.out.2.2.1).size)) (And.intro ((HF17.out.2.2.2.1).below hHeld) (And.intro ((HF17.out.2.2.2.2.1).below hHeld) (And.intro (HF17.out.2.2.2.2.2.1) (And.intro ((HF17.out.2.2.2.2.2.2.1).below hHeld) (And.intro ((HF17.out.2.2.2.2.2.2.2.1).below hHeld) (And.intro ((HF17.out.2.2.2.2.2.2.2.2.1).below hHeld) (And.intro (HF17.out.2.2.2.2.2.2.2.2.2.1) (And.intro ((HF17.out.2.2.2.2.2.2.2.2.2.2.1).below hHeld) (And.intro (HF17.out.2.2.2.2.2.2.2.2.2.2.2.1) (And.intro ((HF17.out.2.2.2.2.2.2.2.2.2.2.2.2.1).below hHeld) (And.intro (HF17.out.2.2.2.2.2.2.2.2.2.2.2.2.2.1) (And.intro ((HF17.out.2.2.2.2.2.2.2.2.2.2.2.2.2.2.1).below hHeld) (And.intro ((HF17.out.2.2.2.2.2.2.2.2.2.2.2.2.2.2.2.1).below hHeld) (And.intro ((HF17.out.2.2.2.2.2.2.2.2.2.2.2.2.2.2.2.2.1).below hHeld) (And.intro ((HF17.out.2.2.2.2.2.2.2.2.2.2.2.2.2.2.2.2.2.1).below hHeld) (And.intro ((HF17.out.2.2.2.2.2.2.2.2.2.2.2.2.2.2.2.2.2.2.1).below hHeld) ((HF17.out.2.2.2.2.2.2.2.2.2.2.2.2.2.2.2.2.2.2.2).below hHeld))))))))))))))))))))
    clear hHeld
    obtain ⟨wl, hwl⟩ : ∃ wl, wl = w21 := ⟨_, rfl⟩
    subst hwl
    go_wp2_with fail
    go_loopw [24] (fun kk wr => ∃ j : Nat, j ≤ n20 ∧ kk = .int .i64 (j : Int) ∧ Old wl wr) (fun kk _ => n20 - (intOf kk).toNat)
    case atStart => exact ⟨0, by omega, rfl, Old.refl _⟩
    case round =>
      obtain ⟨j, hj, rfl, ho⟩ := hrel
      have hj0 : ¬ ((j : Int) < 0) := by omega
      have hr1 := (HF18.out.2.2.2.2.2.2.2.2.2.2.2.2.2.2.2.2.2.2.1).below ho
      rw [HAL.out] at hr1
      have hr2 := (HF18.out.2.2.2.2.2.2.2.2.2.2.2.2.2.2.2.2.2.2.2).below ho
      have hW := (HF18.out.2.2.1).trans (ho.mono (HF18.out.2.2.1).size)
      have HO := Lib.hid (And.intro ho hW)
      clear ho hW
      by_cases hlt : j < n20
      · have hlti : (j : Int) < n20 := by omega
        have hltd : decide ((j : Int) < (n20 : Int)) = true := decide_eq_true hlti
        obtain ⟨x, hx⟩ : ∃ x, arl[j]? = some x := ⟨_, List.getElem?_eq_getElem (by have := hr1.1; omega)⟩
        obtain ⟨g3, o3, e3, c3'⟩ := int_at hr1 hx
        obtain ⟨g4, o4, e4, c4'⟩ := int_at hr2 hx
        subst e3 e4
        clear hr1 hr2 hx
        go_wp2_with fail
        go_quiet (fail)
        have ho0 : Old wr (wr.drewN nq) := (Old.refl wr).drewN nq
        generalize wr.drewN nq = w0 at *
        go_wp2_with fail
        go_roundw
        case measure => simp [intOf]; omega
        exact ⟨j + 1, by omega, by simp, Old.trans HO.out.1 ho0⟩
      · have hlti : ¬ (j : Int) < n20 := by omega
        have hltd : decide ((j : Int) < (n20 : Int)) = false := decide_eq_false hlti
        clear hr1 hr2
        have bZ := (HF18.out.2.2.2.2.2.2.2.2.2.2.2.2.2.2.2.1).below HO.out.1
        have hNr := (HF18.out.2.2.2.2.2.2.2.2.2.2.2.2.2.2.1).below HO.out.1
        have hbr := (HF18.out.2.1).below HO.out.1
        have z0 := bZ.cell 0
        have z1 := bZ.cell 1
        have z2 := bZ.cell 2
        simp only [List.getElem?_toArray, List.getElem?_cons_succ, List.getElem?_cons_zero] at z0 z1 z2
        cases ok with
        | false =>
          clear bZ hNr hbr z0 z1 z2
          go_wp2_with fail
          go_ret
          exact ⟨rfl, HO.out.2⟩
        | true =>
          have hq : oidN q = Nd.mk 6 (oidB q) [] := by unfold oidN; rw [if_pos HOK.out]
          have hql : q.length = M := hbr.1
          have har := arcs_any _ _ (oidN q) ⟨t16, E1, g1, i1, E2, g2, i2⟩ wr hNr (fun b hb => hb) (by rw [hq]; have h9 := (oid_arcs HOK.out).2; have := HB.out.1; omega)
          rw [hq, (oid_arcs HOK.out).1] at har
          simp only [NF.val] at har
          have HBR := Lib.hid (And.intro hbr hql)
          clear bZ hNr hbr hql hq
          go_wp2_with fail
          refine har.mono ?_
          rintro e w23 ⟨hp, hb23⟩
          obtain ⟨A25, n25, c25, rfl, hO25⟩ := hp
          obtain rfl : n25 = M := by have h9 := hO25.len; have h8 := HBR.out.2; omega
          have H23 := Lib.hid (And.intro hO25.rd (And.intro (HBR.out.1.below hb23) (HO.out.2.trans (hb23.mono HO.out.2.size))))
          have hM12 : (n25 : Int) ≤ 12 := by have := HB.out.1; omega
          clear hO25 hb23 har z0 z1 z2
          obtain ⟨wl2, hwl2⟩ : ∃ wl2, wl2 = w23 := ⟨_, rfl⟩
          subst hwl2
          go_wp2_with fail
          go_loopw [27] (fun kk wr => ∃ j : Nat, j ≤ n25 ∧ kk = .int .i64 (j : Int) ∧ Old wl2 wr) (fun kk _ => n25 - (intOf kk).toNat)
          case atStart => exact ⟨0, by omega, rfl, Old.refl _⟩
          case round =>
            obtain ⟨j, hj, rfl, ho⟩ := hrel
            have hj0 : ¬ ((j : Int) < 0) := by omega
            have hr1 := H23.out.1.below ho
            have hr2 := H23.out.2.1.below ho
            have hW := H23.out.2.2.trans (ho.mono H23.out.2.2.size)
            have HO2 := Lib.hid (And.intro ho hW)
            clear ho hW
            by_cases hlt : j < n25
            · have hlti : (j : Int) < n25 := by omega
              have hltd : decide ((j : Int) < (n25 : Int)) = true := decide_eq_true hlti
              obtain ⟨x, hx⟩ : ∃ x, q[j]? = some x := ⟨_, List.getElem?_eq_getElem (by have := hr1.1; omega)⟩
              obtain ⟨g3, o3, e3, c3'⟩ := int_at hr1 hx
              obtain ⟨g4, o4, e4, c4'⟩ := int_at hr2 hx
              subst e3 e4
              clear hr1 hr2 hx
              go_wp2_with fail
              go_quiet (fail)
              have ho0 : Old wr (wr.drewN nq) := (Old.refl wr).drewN nq
              generalize wr.drewN nq = w0 at *
              go_wp2_with fail
              go_roundw
              case measure => simp [intOf]; omega
              exact ⟨j + 1, by omega, by simp, Old.trans HO2.out.1 ho0⟩
            · have hlti : ¬ (j : Int) < n25 := by omega
              have hltd : decide ((j : Int) < (n25 : Int)) = false := decide_eq_false hlti
              clear hr1 hr2
              go_wp2_with fail
              go_ret
              exact ⟨rfl, HO2.out.2⟩
end Go.Proofs.Ytgkhhinjdojbhaa
