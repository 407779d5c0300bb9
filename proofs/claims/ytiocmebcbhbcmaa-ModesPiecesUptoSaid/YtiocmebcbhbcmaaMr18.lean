/-
  Modes, the document's answer: unpad.
-/
import Derived.Test.YtiocmebcbhbcmaaZzMr17
namespace Go.Proofs.Ytiocmebcbhbcmaa
set_option maxRecDepth 100000
open Go.RowKit

/-- The last i bytes are z, as many as z says at most 16. -/
def padP (o : List UInt8) (v i : Nat) : Prop := 1 ≤ v ∧ v ≤ 16 ∧ ∀ t, t < i → o.getD (15 - t) 0 = UInt8.ofNat v
theorem padP_zero (o : List UInt8) (v : Nat) : padP o v 0 ↔ (1 ≤ v ∧ v ≤ 16) := ⟨fun h => ⟨h.1, h.2.1⟩, fun h => ⟨h.1, h.2, fun t ht => by omega⟩⟩
theorem padP_succ (o : List UInt8) (v i : Nat) : padP o v (i + 1) ↔ (padP o v i ∧ o.getD (15 - i) 0 = UInt8.ofNat v) := by
  constructor
  · rintro ⟨h1, h2, h3⟩
    exact ⟨⟨h1, h2, fun t ht => h3 t (by omega)⟩, h3 i (by omega)⟩
  · rintro ⟨⟨h1, h2, h3⟩, h4⟩
    refine ⟨h1, h2, fun t ht => ?_⟩
    rcases Nat.lt_or_ge t i with h | h
    · exact h3 t h
    · obtain rfl : t = i := by omega
      exact h4
theorem padP_mono (o : List UInt8) (v i j : Nat) (hij : i ≤ j) (h : padP o v j) : padP o v i := ⟨h.1, h.2.1, fun t ht => h.2.2 t (by omega)⟩
theorem padP_drop (o : List UInt8) (v : Nat) (ho : o.length = 16) : padP o v v ↔ (1 ≤ v ∧ v ≤ 16 ∧ o.drop (16 - v) = List.replicate v (UInt8.ofNat v)) := by
  constructor
  · rintro ⟨h1, h2, h3⟩
    refine ⟨h1, h2, List.ext_getElem (by rw [List.length_drop, List.length_replicate]; omega) fun i hi1 hi2 => ?_⟩
    rw [List.length_replicate] at hi2
    rw [List.getElem_drop, List.getElem_replicate]
    have := h3 (v - 1 - i) (by omega)
    rw [show 15 - (v - 1 - i) = 16 - v + i by omega, List.getD_eq_getElem?_getD, List.getElem?_eq_getElem (by omega)] at this
    exact this
  · rintro ⟨h1, h2, h3⟩
    refine ⟨h1, h2, fun t ht => ?_⟩
    have h4 := congrArg (fun l => l[v - 1 - t]?) h3
    simp only [List.getElem?_drop] at h4
    rw [List.getElem?_replicate_of_lt (by omega), show 16 - v + (v - 1 - t) = 15 - t by omega] at h4
    rw [List.getD_eq_getElem?_getD, h4]
    rfl
instance (o : List UInt8) (v i : Nat) : Decidable (padP o v i) := by unfold padP; infer_instance
/-- What unpad gives, of whole blocks. -/
def unpadF (x : List UInt8) : List UInt8 × Int :=
  if (stripF (x.drop (x.length - 16))).2 = 0 then (x.take (x.length - 16) ++ (stripF (x.drop (x.length - 16))).1, 0) else (x.take (x.length - 16), 64)
theorem unpadF_eq (x : List UInt8) (v : Nat) (hx : 16 ≤ x.length) (hv : (x.getD (x.length - 1) 0).toNat = v) : unpadF x = if padP (x.drop (x.length - 16)) v v then (x.take (x.length - v), 0) else (x.take (x.length - 16), 64) := by
  obtain ⟨o, ho⟩ : ∃ o, x.drop (x.length - 16) = o := ⟨_, rfl⟩
  have hol : o.length = 16 := by rw [← ho, List.length_drop]; omega
  have hov : (o.getD 15 0).toNat = v := by
    rw [← hv, ← ho, List.getD_eq_getElem?_getD, List.getElem?_drop, show x.length - 16 + 15 = x.length - 1 by omega, List.getD_eq_getElem?_getD]
  unfold unpadF stripF
  rw [ho, hov]
  by_cases hP : padP o v v
  · rw [if_pos hP]
    have h1 := (padP_drop o v hol).1 hP
    rw [if_pos h1, if_pos rfl]
    refine Prod.ext ?_ rfl
    show x.take (x.length - 16) ++ o.take (16 - v) = x.take (x.length - v)
    rw [← ho, show x.length - v = (x.length - 16) + (16 - v) by omega, List.take_add]
  · rw [if_neg hP, if_neg (fun h => hP ((padP_drop o v hol).2 h)), if_neg (by decide)]
/-- What unpad gives: the front of what it was given. -/
def RvAt (w : World) (A : Option Addr) (c : Nat) (r : List UInt8 × Int) (e : Ending) (w' : World) : Prop := ∃ n, e = .returned (.tuple #[.slice A n c, .int .i64 r.2]) ∧ Rd w' A n c r.1 ∧ Old w w'
set_option maxHeartbeats 4000000 in
theorem runpad_short (A C : Option Addr) (nx cx n cb : Nat) (x b : List UInt8) (w : World) (hx : Rd w A nx cx x) (hb : Rd w C n cb b) (hnx : (n - 1) / 16 * 16 ≤ nx) (hn : n ≤ 40000) (h : n = 0 ∨ n % 16 ≠ 0) :
    Calls Try.prog 35 #[.slice A nx cx, .slice C n cb] w (RvAt w A cx (x.take ((n - 1) / 16 * 16), 65)) := by
  have hc := hx.2.1
  obtain ⟨k, hk⟩ : ∃ k, (n - 1) / 16 * 16 = k := ⟨_, rfl⟩
  rw [hk] at hnx ⊢
  have hsl := slice_to A nx cx k hx.spot (by omega)
  have hfr := hx.front (k := k) hnx
  have HH := Lib.hid hfr
  clear hfr hx hb
  by_cases h0 : n = 0
  · subst h0
    have hk0 : k = 0 := by omega
    subst hk0
    clear hk
    go_enter Try.func35, Try.ntmps35
    go_wp2_with fail
    refine bodyPost_ret (results_tmp2 rfl _ _ _) rfl ?_
    exact ⟨_, rfl, HH.out, Old.refl _⟩
  · have hnz : ¬ (n : Int) = 0 := by omega
    have hnb : ((n : Int) == 0) = false := by simpa using hnz
    have hg : ¬ (n : Int) % 16 = 0 := by omega
    have hgd : ((n : Int) % 16 != 0) = true := by simpa using hg
    have hp : (n : Int) > 0 := by omega
    have hpd : decide ((n : Int) > 0) = true := decide_eq_true hp
    obtain ⟨m, hm⟩ : ∃ m, n - 1 = m := ⟨_, rfl⟩
    have hmi : (n : Int) - 1 = (m : Int) := by omega
    have hmw : IntKind.i64.wrap (m : Int) = (m : Int) := IntWalk.i64_in _ (by omega)
    obtain ⟨q, hq⟩ : ∃ q, m / 16 = q := ⟨_, rfl⟩
    have hq1 : Int.tdiv (m : Int) 16 = (q : Int) := by rw [Int.tdiv_eq_ediv_of_nonneg (by omega)]; omega
    have hq2 : (m : Int) / 16 = (q : Int) := by omega
    have hki : (q : Int) * 16 = (k : Int) := by omega
    have hkw : IntKind.i64.wrap (k : Int) = (k : Int) := IntWalk.i64_in _ (by omega)
    clear hk hm hq h h0
    go_enter Try.func35, Try.ntmps35
    go_wp2_with fail
    refine bodyPost_ret (results_tmp2 rfl _ _ _) rfl ?_
    exact ⟨_, rfl, HH.out, Old.refl _⟩
theorem padP_byte (o : List UInt8) (v t : Nat) (z : UInt8) (hz : o.getD (15 - t) 0 = z) (hv : v < 256) (hp : padP o v t) (q : Bool) (hq : ((z.toNat : Int) == (v : Int)) = q) : q = true ↔ padP o v (t + 1) := by
  rw [padP_succ, hz, ← hq]
  constructor
  · intro h
    have h1 : (z.toNat : Int) = (v : Int) := by simpa using h
    refine ⟨hp, ?_⟩
    have h2 : z.toNat = v := by omega
    rw [← h2]
    exact (UInt8.ofNat_toNat).symm
  · rintro ⟨_, h⟩
    rw [h]
    have : (UInt8.ofNat v).toNat = v := by rw [UInt8.toNat_ofNat', Nat.mod_eq_of_lt (by omega)]
    rw [this]
    simp
set_option maxHeartbeats 4000000 in
theorem runpad_any (A C : Option Addr) (n cx cb : Nat) (x b : List UInt8) (w : World) (hx : Rd w A n cx x) (hb : Rd w C n cb b) (hn : n ≤ 40000) (hn0 : 0 < n) (h16 : n % 16 = 0) :
    Calls Try.prog 35 #[.slice A n cx, .slice C n cb] w (RvAt w A cx (unpadF x)) := by
  have hxl := hx.1
  have hxc := hx.2.1
  have hn16 : 16 ≤ n := by omega
  obtain ⟨z, hz⟩ : ∃ z, x[n - 1]? = some z := ⟨_, List.getElem?_eq_getElem (by omega)⟩
  have hzd : x.getD (n - 1) 0 = z := by rw [List.getD_eq_getElem?_getD, hz]; rfl
  obtain ⟨v, hv⟩ : ∃ v, z.toNat = v := ⟨_, rfl⟩
  have hv256 : v < 256 := by have := z.toNat_lt; omega
  obtain ⟨o, ho⟩ : ∃ o, x.drop (n - 16) = o := ⟨_, rfl⟩
  have hE := unpadF_eq x v (by omega) (by rw [← hxl, hzd]; exact hv)
  rw [← hxl, ho] at hE
  obtain ⟨RES, hRES⟩ : ∃ r, unpadF x = r := ⟨_, rfl⟩
  rw [hRES] at hE ⊢
  obtain ⟨m, hm⟩ : ∃ m, n - 1 = m := ⟨_, rfl⟩
  rw [hm] at hz
  have hmi : (n : Int) - 1 = (m : Int) := by omega
  have hmw : IntKind.i64.wrap (m : Int) = (m : Int) := IntWalk.i64_in _ (by omega)
  have hml : (m : Int) < (n : Int) := by omega
  obtain ⟨k, hk⟩ : ∃ k, n - 16 = k := ⟨_, rfl⟩
  have hki : (n : Int) - 16 = (k : Int) := by omega
  have hkw : IntKind.i64.wrap (k : Int) = (k : Int) := IntWalk.i64_in _ (by omega)
  have hslk := slice_to A n cx k hx.spot (by omega)
  have hfrk := hx.front (k := k) (by omega)
  rw [hk] at hE ho
  have hot : ∀ t, t < 16 → ∀ y, x[m - t]? = some y → o.getD (15 - t) 0 = y := fun t ht y hy => by
    rw [← ho, List.getD_eq_getElem?_getD, List.getElem?_drop, show k + (15 - t) = m - t by omega, hy]; rfl
  obtain ⟨bb, ob, rfl, hat⟩ := hx.addr (by omega)
  have ym := hat.2 m z hz
  have hcv := conv_Bi z w
  rw [hv] at hcv
  have hne : ¬ (n : Int) = 0 := by omega
  have hnb : ((n : Int) == 0) = false := by simpa using hne
  have hg : (n : Int) % 16 = 0 := by omega
  have hgd : ((n : Int) % 16 != 0) = false := by simp [hg]
  have hg2 : Int.tmod (n : Int) 16 = 0 := by rw [Int.tmod_eq_emod_of_nonneg (by omega)]; exact hg
  have HH := Lib.hid (And.intro hx (And.intro hE (And.intro hfrk hot)))
  have HO := Lib.hid (And.intro hm (And.intro hxl hk))
  clear hb hx hE hRES hfrk hot hat hz hzd hm hk ho hv hxl
  by_cases h1 : v < 1
  · have h1i : ¬ (v : Int) ≥ 1 := by omega
    have h1d : decide ((v : Int) ≥ 1) = false := decide_eq_false h1i
    have hok0 : false = true ↔ padP o v 0 := by rw [padP_zero]; constructor <;> intro h; cases h; omega
    have HK := Lib.hid hok0
    clear hok0
    go_enter Try.func35, Try.ntmps35
    go_wp2_with fail
    go_loopw [8, 9] (fun okv iv wr => ∃ (ok : Bool) (t : Nat), t ≤ v ∧ okv = .bool ok ∧ iv = .int .i64 (t : Int) ∧ (ok = true ↔ padP o v t) ∧ Old w wr) (fun _ iv _ => v - (intOf iv).toNat)
    case atStart => exact ⟨_, 0, Nat.zero_le _, rfl, rfl, (by have h := HK.out; simpa using h), Old.refl _⟩
    case round =>
      obtain ⟨ok, t, ht, rfl, rfl, hokt, hB⟩ := hrel
      cases ok
      · have hnp : ¬ padP o v v := fun h => by have := hokt.2 (padP_mono _ _ _ _ ht h); cases this
        have HP := Lib.hid (And.intro hnp hB)
        clear hokt hnp hB
        go_wp2_with fail
        refine bodyPost_ret (results_tmp2 rfl _ _ _) rfl ?_
        rw [HH.out.2.1, if_neg HP.out.1]
        exact ⟨_, rfl, HH.out.2.2.1.below HP.out.2, HP.out.2⟩
      · have hpt := hokt.1 rfl
        have hv16 := hpt.2.1
        by_cases hlt : t < v
        · have hlti : (t : Int) < (v : Int) := by omega
          have hltd : decide ((t : Int) < (v : Int)) = true := decide_eq_true hlti
          obtain ⟨t1, ht1⟩ : ∃ t1, t + 1 = t1 := ⟨_, rfl⟩
          have ht1i : (t : Int) + 1 = (t1 : Int) := by omega
          have ht1w : IntKind.i64.wrap (t1 : Int) = (t1 : Int) := IntWalk.i64_in _ (by omega)
          obtain ⟨j, hj⟩ : ∃ j, m - t = j := ⟨_, rfl⟩
          have hji : (m : Int) - (t : Int) = (j : Int) := by have := HO.out.1; omega
          have hjw : IntKind.i64.wrap (j : Int) = (j : Int) := IntWalk.i64_in _ (by omega)
          have hjl : (j : Int) < (n : Int) := by omega
          obtain ⟨zj, hzj⟩ : ∃ z, x[j]? = some z := ⟨_, List.getElem?_eq_getElem (by have := HO.out.2.1; omega)⟩
          have hoz := HH.out.2.2.2 t (by omega) zj (by rw [hj]; exact hzj)
          obtain ⟨bb2, ob2, e2, hat2⟩ := (HH.out.1.below hB).addr (by omega)
          injection e2 with e2
          injection e2 with e3 e4 e5
          subst e3 e4
          have yj := hat2.2 j zj hzj
          have hcj := conv_Bi zj wr
          obtain ⟨u, hu⟩ : ∃ u, zj.toNat = u := ⟨_, rfl⟩
          obtain ⟨q, hq⟩ : ∃ q, ((zj.toNat : Int) == (v : Int)) = q := ⟨_, rfl⟩
          have hok2 := padP_byte o v t zj hoz hv256 hpt q hq
          rw [ht1] at hok2
          rw [hu] at hq hcj
          have HN := Lib.hid (And.intro hok2 (And.intro hB ht1))
          clear hok2 hB ht1 hj hzj hoz hat2 hpt hokt hu hv16 hlt
          go_wp2_with fail
          go_roundw
          case rel => exact ⟨q, t1, by have := HN.out.2.2; omega, rfl, rfl, HN.out.1, HN.out.2.1⟩
          case measure => have := HN.out.2.2; simp [intOf]; omega
        · obtain rfl : t = v := by omega
          have hlti : ¬ (t : Int) < (t : Int) := by omega
          have hltd : decide ((t : Int) < (t : Int)) = false := decide_eq_false hlti
          obtain ⟨kv, hkv⟩ : ∃ k, n - t = k := ⟨_, rfl⟩
          have hkvi : (n : Int) - (t : Int) = (kv : Int) := by omega
          have hkvw : IntKind.i64.wrap (kv : Int) = (kv : Int) := IntWalk.i64_in _ (by omega)
          have hslv := slice_to (some ⟨bb, ob, none⟩) n cx kv HH.out.1.spot (by omega)
          have hfrv := HH.out.1.front (k := kv) (by omega)
          have HP := Lib.hid (And.intro hpt (And.intro hB (And.intro hfrv hkv)))
          clear hokt hpt hB hfrv hkv hlt hv16
          go_wp2_with fail
          refine bodyPost_ret (results_tmp2 rfl _ _ _) rfl ?_
          rw [HH.out.2.1, if_pos HP.out.1, HP.out.2.2.2]
          exact ⟨_, rfl, HP.out.2.2.1.below HP.out.2.1, HP.out.2.1⟩
  · have h1i : (v : Int) ≥ 1 := by omega
    have h1d : decide ((v : Int) ≥ 1) = true := decide_eq_true h1i
    by_cases h17 : v ≤ 16
    · have h17i : (v : Int) ≤ 16 := by omega
      have h17d : decide ((v : Int) ≤ 16) = true := decide_eq_true h17i
      have hok0 : true = true ↔ padP o v 0 := by rw [padP_zero]; exact ⟨fun _ => by omega, fun _ => rfl⟩
      have HK := Lib.hid hok0
      clear hok0
      go_enter Try.func35, Try.ntmps35
      go_wp2_with fail
      go_loopw [8, 9] (fun okv iv wr => ∃ (ok : Bool) (t : Nat), t ≤ v ∧ okv = .bool ok ∧ iv = .int .i64 (t : Int) ∧ (ok = true ↔ padP o v t) ∧ Old w wr) (fun _ iv _ => v - (intOf iv).toNat)
      case atStart => exact ⟨_, 0, Nat.zero_le _, rfl, rfl, (by have h := HK.out; simpa using h), Old.refl _⟩
      case round =>
        obtain ⟨ok, t, ht, rfl, rfl, hokt, hB⟩ := hrel
        cases ok
        · have hnp : ¬ padP o v v := fun h => by have := hokt.2 (padP_mono _ _ _ _ ht h); cases this
          have HP := Lib.hid (And.intro hnp hB)
          clear hokt hnp hB
          go_wp2_with fail
          refine bodyPost_ret (results_tmp2 rfl _ _ _) rfl ?_
          rw [HH.out.2.1, if_neg HP.out.1]
          exact ⟨_, rfl, HH.out.2.2.1.below HP.out.2, HP.out.2⟩
        · have hpt := hokt.1 rfl
          have hv16 := hpt.2.1
          by_cases hlt : t < v
          · have hlti : (t : Int) < (v : Int) := by omega
            have hltd : decide ((t : Int) < (v : Int)) = true := decide_eq_true hlti
            obtain ⟨t1, ht1⟩ : ∃ t1, t + 1 = t1 := ⟨_, rfl⟩
            have ht1i : (t : Int) + 1 = (t1 : Int) := by omega
            have ht1w : IntKind.i64.wrap (t1 : Int) = (t1 : Int) := IntWalk.i64_in _ (by omega)
            obtain ⟨j, hj⟩ : ∃ j, m - t = j := ⟨_, rfl⟩
            have hji : (m : Int) - (t : Int) = (j : Int) := by have := HO.out.1; omega
            have hjw : IntKind.i64.wrap (j : Int) = (j : Int) := IntWalk.i64_in _ (by omega)
            have hjl : (j : Int) < (n : Int) := by omega
            obtain ⟨zj, hzj⟩ : ∃ z, x[j]? = some z := ⟨_, List.getElem?_eq_getElem (by have := HO.out.2.1; omega)⟩
            have hoz := HH.out.2.2.2 t (by omega) zj (by rw [hj]; exact hzj)
            obtain ⟨bb2, ob2, e2, hat2⟩ := (HH.out.1.below hB).addr (by omega)
            injection e2 with e2
            injection e2 with e3 e4 e5
            subst e3 e4
            have yj := hat2.2 j zj hzj
            have hcj := conv_Bi zj wr
            obtain ⟨u, hu⟩ : ∃ u, zj.toNat = u := ⟨_, rfl⟩
            obtain ⟨q, hq⟩ : ∃ q, ((zj.toNat : Int) == (v : Int)) = q := ⟨_, rfl⟩
            have hok2 := padP_byte o v t zj hoz hv256 hpt q hq
            rw [ht1] at hok2
            rw [hu] at hq hcj
            have HN := Lib.hid (And.intro hok2 (And.intro hB ht1))
            clear hok2 hB ht1 hj hzj hoz hat2 hpt hokt hu hv16 hlt
            go_wp2_with fail
            go_roundw
            case rel => exact ⟨q, t1, by have := HN.out.2.2; omega, rfl, rfl, HN.out.1, HN.out.2.1⟩
            case measure => have := HN.out.2.2; simp [intOf]; omega
          · obtain rfl : t = v := by omega
            have hlti : ¬ (t : Int) < (t : Int) := by omega
            have hltd : decide ((t : Int) < (t : Int)) = false := decide_eq_false hlti
            obtain ⟨kv, hkv⟩ : ∃ k, n - t = k := ⟨_, rfl⟩
            have hkvi : (n : Int) - (t : Int) = (kv : Int) := by omega
            have hkvw : IntKind.i64.wrap (kv : Int) = (kv : Int) := IntWalk.i64_in _ (by omega)
            have hslv := slice_to (some ⟨bb, ob, none⟩) n cx kv HH.out.1.spot (by omega)
            have hfrv := HH.out.1.front (k := kv) (by omega)
            have HP := Lib.hid (And.intro hpt (And.intro hB (And.intro hfrv hkv)))
            clear hokt hpt hB hfrv hkv hlt hv16
            go_wp2_with fail
            refine bodyPost_ret (results_tmp2 rfl _ _ _) rfl ?_
            rw [HH.out.2.1, if_pos HP.out.1, HP.out.2.2.2]
            exact ⟨_, rfl, HP.out.2.2.1.below HP.out.2.1, HP.out.2.1⟩
    · have h17i : ¬ (v : Int) ≤ 16 := by omega
      have h17d : decide ((v : Int) ≤ 16) = false := decide_eq_false h17i
      have hok0 : false = true ↔ padP o v 0 := by rw [padP_zero]; constructor <;> intro h; cases h; omega
      have HK := Lib.hid hok0
      clear hok0
      go_enter Try.func35, Try.ntmps35
      go_wp2_with fail
      go_loopw [8, 9] (fun okv iv wr => ∃ (ok : Bool) (t : Nat), t ≤ v ∧ okv = .bool ok ∧ iv = .int .i64 (t : Int) ∧ (ok = true ↔ padP o v t) ∧ Old w wr) (fun _ iv _ => v - (intOf iv).toNat)
      case atStart => exact ⟨_, 0, Nat.zero_le _, rfl, rfl, (by have h := HK.out; simpa using h), Old.refl _⟩
      case round =>
        obtain ⟨ok, t, ht, rfl, rfl, hokt, hB⟩ := hrel
        cases ok
        · have hnp : ¬ padP o v v := fun h => by have := hokt.2 (padP_mono _ _ _ _ ht h); cases this
          have HP := Lib.hid (And.intro hnp hB)
          clear hokt hnp hB
          go_wp2_with fail
          refine bodyPost_ret (results_tmp2 rfl _ _ _) rfl ?_
          rw [HH.out.2.1, if_neg HP.out.1]
          exact ⟨_, rfl, HH.out.2.2.1.below HP.out.2, HP.out.2⟩
        · have hpt := hokt.1 rfl
          have hv16 := hpt.2.1
          by_cases hlt : t < v
          · have hlti : (t : Int) < (v : Int) := by omega
            have hltd : decide ((t : Int) < (v : Int)) = true := decide_eq_true hlti
            obtain ⟨t1, ht1⟩ : ∃ t1, t + 1 = t1 := ⟨_, rfl⟩
            have ht1i : (t : Int) + 1 = (t1 : Int) := by omega
            have ht1w : IntKind.i64.wrap (t1 : Int) = (t1 : Int) := IntWalk.i64_in _ (by omega)
            obtain ⟨j, hj⟩ : ∃ j, m - t = j := ⟨_, rfl⟩
            have hji : (m : Int) - (t : Int) = (j : Int) := by have := HO.out.1; omega
            have hjw : IntKind.i64.wrap (j : Int) = (j : Int) := IntWalk.i64_in _ (by omega)
            have hjl : (j : Int) < (n : Int) := by omega
            obtain ⟨zj, hzj⟩ : ∃ z, x[j]? = some z := ⟨_, List.getElem?_eq_getElem (by have := HO.out.2.1; omega)⟩
            have hoz := HH.out.2.2.2 t (by omega) zj (by rw [hj]; exact hzj)
            obtain ⟨bb2, ob2, e2, hat2⟩ := (HH.out.1.below hB).addr (by omega)
            injection e2 with e2
            injection e2 with e3 e4 e5
            subst e3 e4
            have yj := hat2.2 j zj hzj
            have hcj := conv_Bi zj wr
            obtain ⟨u, hu⟩ : ∃ u, zj.toNat = u := ⟨_, rfl⟩
            obtain ⟨q, hq⟩ : ∃ q, ((zj.toNat : Int) == (v : Int)) = q := ⟨_, rfl⟩
            have hok2 := padP_byte o v t zj hoz hv256 hpt q hq
            rw [ht1] at hok2
            rw [hu] at hq hcj
            have HN := Lib.hid (And.intro hok2 (And.intro hB ht1))
            clear hok2 hB ht1 hj hzj hoz hat2 hpt hokt hu hv16 hlt
            go_wp2_with fail
            go_roundw
            case rel => exact ⟨q, t1, by have := HN.out.2.2; omega, rfl, rfl, HN.out.1, HN.out.2.1⟩
            case measure => have := HN.out.2.2; simp [intOf]; omega
          · obtain rfl : t = v := by omega
            have hlti : ¬ (t : Int) < (t : Int) := by omega
            have hltd : decide ((t : Int) < (t : Int)) = false := decide_eq_false hlti
            obtain ⟨kv, hkv⟩ : ∃ k, n - t = k := ⟨_, rfl⟩
            have hkvi : (n : Int) - (t : Int) = (kv : Int) := by omega
            have hkvw : IntKind.i64.wrap (kv : Int) = (kv : Int) := IntWalk.i64_in _ (by omega)
            have hslv := slice_to (some ⟨bb, ob, none⟩) n cx kv HH.out.1.spot (by omega)
            have hfrv := HH.out.1.front (k := kv) (by omega)
            have HP := Lib.hid (And.intro hpt (And.intro hB (And.intro hfrv hkv)))
            clear hokt hpt hB hfrv hkv hlt hv16
            go_wp2_with fail
            refine bodyPost_ret (results_tmp2 rfl _ _ _) rfl ?_
            rw [HH.out.2.1, if_pos HP.out.1, HP.out.2.2.2]
            exact ⟨_, rfl, HP.out.2.2.1.below HP.out.2.1, HP.out.2.1⟩
end Go.Proofs.Ytiocmebcbhbcmaa
