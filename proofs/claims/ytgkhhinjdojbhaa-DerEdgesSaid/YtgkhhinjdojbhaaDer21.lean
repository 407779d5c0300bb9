/-
  DER: OID.
-/
import Derived.Test.YtgkhhinjdojbhaaDer20
import Derived.Test.YtgkhhinjdojbhaaSliceE
namespace Go.Proofs.Ytgkhhinjdojbhaa
open Go.RowKit

def Icells (x : Int) : List Value := [.int .i64 x]
def Try.eI : ETy Int where
  t := 3
  ts := 39
  sz := 1
  bytes := 8
  z := .int .i64 0
  cells := Icells
  len := fun _ => rfl
  one := fun x u hu => by simp [Icells] at hu; subst hu; rfl
  pos := by decide
  zsz := rfl
  small := by decide
  und := Try.underlying39
  info := by kernel_rfl
theorem int_at {W : World} {A : Option Addr} {m : Nat} {l : List Int} (h : RdC Try.eI W A m l) {j : Nat} {x : Int} (hj : l[j]? = some x) : ∃ g off, A = some ⟨g, off, none⟩ ∧ W.cell? ⟨g, off + j, none⟩ = some (.int .i64 x) := by
  obtain ⟨g, off, hA, hg, hc⟩ := h.at_ hj
  have c0 := hc 0 (by decide)
  rw [show off + (j * Try.eI.sz + 0) = off + j by show off + (j * 1 + 0) = off + j; omega] at c0
  exact ⟨g, off, hA, c0⟩
def arcOk (a : Int) : Bool := decide (0 ≤ a) && decide (a ≤ 268435456)
def oidHead (l : List Int) : Bool := decide (2 ≤ l.length) && decide (l.getD 0 0 ≤ 2) && (decide (2 ≤ l.getD 0 0) || decide (l.getD 1 0 ≤ 39))
def oidOk (l : List Int) : Bool := oidHead l && l.all arcOk
def digAll (l : List Int) : List UInt8 := l.flatMap fun a => dig a.toNat
def oidB (l : List Int) : List UInt8 := dig (40 * l.getD 0 0 + l.getD 1 0).toNat ++ digAll (l.drop 2)
theorem digAll_step {l : List Int} {j : Nat} {a : Int} (h : l[j]? = some a) : digAll (l.take (j + 1)) = digAll (l.take j) ++ dig a.toNat := by
  unfold digAll
  rw [List.take_add_one, h, List.flatMap_append]
  simp
theorem dig_len {n : Nat} (h : n < 536870912) : (dig n).length ≤ 6 := by
  unfold dig
  have := digHi_len (n := n / 128) (k := 5) (by omega)
  simp; omega
theorem digAll_len {l : List Int} (h : ∀ a ∈ l, a.toNat < 536870912) : (digAll l).length ≤ 6 * l.length := by
  induction l with
  | nil => simp [digAll]
  | cons a l ih =>
    have := ih (fun x hx => h x (by simp [hx]))
    have := dig_len (h a (by simp))
    unfold digAll at *
    rw [List.flatMap_cons, List.length_append, List.length_cons]
    omega
/-- What OID gives. -/
def OidPost (w w' : World) (e : Ending) (l : List Int) : Bool → Prop
  | false => e = .returned (.tuple #[zNF.val, .bool false])
  | true => ∃ f : NF, e = .returned (.tuple #[f.val, .bool true]) ∧ NdR (fun b => w.heap.size ≤ b ∧ b < w'.heap.size) NB w' f (.mk 6 (oidB l) [])
theorem node_resB {fn : Func} {tmps : Array Value} {W : World} {R : Nat} {f : NF} {p q : Tmp} (hr : fn.results = #[.cell p 25, .tmp q]) (hp : tmps.getD p undef = .pointer (some ⟨R, 0, none⟩)) (hb : Blk W R 25 f.cells.toArray) :
    (results fn tmps).run Try.prog W = .ok (.tuple #[f.val, tmps.getD q undef]) W := by
  have z0 := hb.cell 0
  have z1 := hb.cell 1
  have z2 := hb.cell 2
  simp only [NF.cells, List.getElem?_toArray, List.getElem?_cons_succ, List.getElem?_cons_zero] at z0 z1 z2
  have hp' : tmps[p]?.getD undef = .pointer (some ⟨R, 0, none⟩) := by simpa using hp
  simp [results, hr, go_sem, hp', z0, z1, z2, NF.val]
set_option maxRecDepth 100000 in
set_option maxHeartbeats 8000000 in
theorem oid_any (A : Option Addr) (m c : Nat) (l : List Int) (w : World) (h : RdC Try.eI w A m l) (hc : m ≤ c ∧ c ≤ maxLen) (hm : m ≤ 1000) :
    Calls Try.prog 23 #[.slice A m c] w fun e w' => OidPost w w' e l (oidOk l) ∧ Below w.heap.size w w' := by
  obtain ⟨X, hX⟩ : ∃ X, w.heap.size = X := ⟨_, rfl⟩
  obtain ⟨wA, hwA⟩ : ∃ wA, w.alloc (.cells #[.int .i64 0, .slice none 0 0, .slice none 0 0] 25) = wA := ⟨_, rfl⟩
  have bA : Blk wA X 25 #[.int .i64 0, .slice none 0 0, .slice none 0 0] := by rw [← hwA, ← hX]; exact Blk.new _ _ _
  have hbA : Below w.heap.size w wA := by rw [← hwA]; exact (Below.refl _ _).alloc (Nat.le_refl _) _
  have hsA : wA.heap.size = X + 1 := by rw [← hwA, ← hX]; simp
  have hlm := h.1
  obtain ⟨ok, hok⟩ : ∃ ok, oidOk l = ok := ⟨_, rfl⟩
  rw [hok]
  unfold oidOk oidHead at hok
  have HA := Lib.hid (And.intro bA (And.intro hbA (And.intro hsA (h.below hbA))))
  clear bA hbA hsA h
  go_enter Try.func23, Try.ntmps23
  go_upto_region 1 with fail
  try rw [hX]
  try rw [hwA]
  by_cases h2 : m < 2
  · have t1 : (m : Int) < 2 := by omega
    have t1d : decide ((m : Int) < 2) = true := decide_eq_true t1
    have HN := Lib.hid (show ok = false by rw [← hok, decide_eq_false (show ¬ 2 ≤ l.length by omega)]; rfl)
    clear hok hlm
    go_wp2_with (refine wpList_store_arr rfl 25 (.tmp 2) (.tmp 30) rfl X 25 _ [.int .i64 0, .slice none 0 0, .slice none 0 0] HA.out.1 rfl rfl (by kernel_rfl) rfl rfl ?_; intro w9 hB9 hT9; have H9 := Lib.hid (And.intro hB9 hT9); clear hB9 hT9)
    refine bodyPost_ret (node_resB (f := zNF) rfl rfl H9.out.1) rfl ?_
    rw [HN.out]
    have hb9 : Below w.heap.size w w9 := below_turn (HA.out.2.1) H9.out.2 (fun t ht => by simp at ht; omega) (HA.out.2.1).size
    exact ⟨rfl, by first | exact hb9 | (rw [← hX]; exact hb9)⟩
  have t1 : ¬ (m : Int) < 2 := by omega
  have t1d : decide ((m : Int) < 2) = false := decide_eq_false t1
  rw [decide_eq_true (show 2 ≤ l.length by omega), Bool.true_and] at hok
  obtain ⟨a0, ha0⟩ : ∃ a0, l[0]? = some a0 := ⟨_, List.getElem?_eq_getElem (by omega)⟩
  obtain ⟨a1, ha1⟩ : ∃ a1, l[1]? = some a1 := ⟨_, List.getElem?_eq_getElem (by omega)⟩
  have d0 : l.getD 0 0 = a0 := by rw [List.getD_eq_getElem?_getD, ha0]; rfl
  have d1 : l.getD 1 0 = a1 := by rw [List.getD_eq_getElem?_getD, ha1]; rfl
  rw [d0, d1] at hok
  obtain ⟨g, off, hAe, c0⟩ := int_at HA.out.2.2.2 ha0
  subst hAe
  obtain ⟨g', off', hAe, c1⟩ := int_at HA.out.2.2.2 ha1
  injection hAe with hAe
  injection hAe with e1 e2
  subst e1
  subst e2
  rw [Nat.add_zero] at c0
  have i0 : (0 : Int) < m := by omega
  have i1 : (1 : Int) < m := by omega
  have HL := Lib.hid (And.intro ha0 (And.intro ha1 (And.intro d0 (And.intro d1 hlm))))
  clear ha0 ha1 d0 d1 hlm
  by_cases h3 : 2 < a0
  · have t2d : decide (2 < a0) = true := decide_eq_true h3
    have HN := Lib.hid (show ok = false by rw [← hok, decide_eq_false (show ¬ a0 ≤ 2 by omega)]; rfl)
    clear hok
    go_wp2_with (refine wpList_store_arr rfl 25 (.tmp 2) (.tmp 30) rfl X 25 _ [.int .i64 0, .slice none 0 0, .slice none 0 0] HA.out.1 rfl rfl (by kernel_rfl) rfl rfl ?_; intro w9 hB9 hT9; have H9 := Lib.hid (And.intro hB9 hT9); clear hB9 hT9)
    refine bodyPost_ret (node_resB (f := zNF) rfl rfl H9.out.1) rfl ?_
    rw [HN.out]
    have hb9 : Below w.heap.size w w9 := below_turn (HA.out.2.1) H9.out.2 (fun t ht => by simp at ht; omega) (HA.out.2.1).size
    exact ⟨rfl, by first | exact hb9 | (rw [← hX]; exact hb9)⟩
  have t2d : decide (2 < a0) = false := decide_eq_false h3
  rw [decide_eq_true (show a0 ≤ 2 by omega), Bool.true_and] at hok
  have hcut : (a0 < 2 ∧ 39 < a1) ∨ ¬ (a0 < 2 ∧ 39 < a1) := Classical.em _
  rcases hcut with ⟨h4, h5⟩ | hn
  · have t3d : decide (a0 < 2) = true := decide_eq_true h4
    have t4d : decide (39 < a1) = true := decide_eq_true h5
    have HN := Lib.hid (show ok = false by rw [← hok, decide_eq_false (show ¬ 2 ≤ a0 by omega), decide_eq_false (show ¬ a1 ≤ 39 by omega)]; rfl)
    clear hok
    go_wp2_with (refine wpList_store_arr rfl 25 (.tmp 2) (.tmp 30) rfl X 25 _ [.int .i64 0, .slice none 0 0, .slice none 0 0] HA.out.1 rfl rfl (by kernel_rfl) rfl rfl ?_; intro w9 hB9 hT9; have H9 := Lib.hid (And.intro hB9 hT9); clear hB9 hT9)
    refine bodyPost_ret (node_resB (f := zNF) rfl rfl H9.out.1) rfl ?_
    rw [HN.out]
    have hb9 : Below w.heap.size w w9 := below_turn (HA.out.2.1) H9.out.2 (fun t ht => by simp at ht; omega) (HA.out.2.1).size
    exact ⟨rfl, by first | exact hb9 | (rw [← hX]; exact hb9)⟩
  have hok2 : l.all arcOk = ok := by
    rw [← hok]
    by_cases h4 : a0 < 2
    · rw [decide_eq_false (show ¬ 2 ≤ a0 by omega), decide_eq_true (show a1 ≤ 39 by omega)]; rfl
    · rw [decide_eq_true (show 2 ≤ a0 by omega)]; rfl
  have HOK := Lib.hid hok2
  clear hok hok2
  have HP := Lib.hid (show 0 ≤ a0 → 0 ≤ a1 → a1 ≤ 268435456 → True from fun _ _ _ => trivial)
  go_cut [29] (fun s wx => s = .bool false ∧ wx = wA)
  case first =>
    by_cases h4 : a0 < 2
    · have t3d : decide (a0 < 2) = true := decide_eq_true h4
      have h5 : ¬ 39 < a1 := fun h => hn ⟨h4, h⟩
      have t4d : decide (39 < a1) = false := decide_eq_false h5
      clear hn
      go_wp2_with fail
      go_meet
      exact ⟨rfl, rfl⟩
    · have t3d : decide (a0 < 2) = false := decide_eq_false h4
      clear hn
      go_wp2_with fail
      go_meet
      exact ⟨rfl, rfl⟩
  case rest =>
    obtain ⟨rfl, hcut⟩ := hcut
    subst hcut
    obtain ⟨wF, hwF⟩ : ∃ wF, wF = wc := ⟨_, rfl⟩
    subst hwF
    clear t2d
    go_wp2_with fail
    clear hn
    go_loopw [33] (fun kk wr => ∃ j : Nat, j ≤ m ∧ kk = .int .i64 (j : Int) ∧ (l.take j).all arcOk = true ∧ wr = wF) (fun kk _ => m - (intOf kk).toNat)
    case atStart => exact ⟨0, by omega, rfl, rfl, rfl⟩
    case round =>
      obtain ⟨j, hj, rfl, hall, hwe⟩ := hrel
      subst hwe
      obtain ⟨wG, hwG⟩ : ∃ wG, wG = wr := ⟨_, rfl⟩
      subst hwG
      by_cases hlt : j < m
      · have hi : (j : Int) < m := by omega
        have hd : decide ((j : Int) < (m : Int)) = true := decide_eq_true hi
        have hk0 : ¬ ((j : Int) < 0) := by omega
        obtain ⟨a, ha⟩ : ∃ a, l[j]? = some a := ⟨_, List.getElem?_eq_getElem (by have := HL.out.2.2.2.2; omega)⟩
        obtain ⟨g2, off2, hAe, ca⟩ := int_at HA.out.2.2.2 ha
        injection hAe with hAe
        injection hAe with e1 e2
        subst e1
        subst e2
        by_cases hbad : arcOk a = false
        · have HN := Lib.hid (show ok = false by
            rw [← HOK.out]
            cases hh : l.all arcOk with
            | false => rfl
            | true => rw [List.all_eq_true.1 hh a (List.mem_of_getElem? ha)] at hbad; cases hbad)
          by_cases hneg : a < 0
          · have t5d : decide (a < 0) = true := decide_eq_true hneg
            clear ha hbad hall
            go_wp2_with (refine wpList_store_arr rfl 25 (.tmp 2) (.tmp 43) rfl X 25 _ [.int .i64 0, .slice none 0 0, .slice none 0 0] HA.out.1 rfl rfl (by kernel_rfl) rfl rfl ?_; intro w9 hB9 hT9; have H9 := Lib.hid (And.intro hB9 hT9); clear hB9 hT9)
            refine bodyPost_ret (node_resB (f := zNF) rfl rfl H9.out.1) rfl ?_
            rw [HN.out]
            have hb9 : Below w.heap.size w w9 := below_turn (HA.out.2.1) H9.out.2 (fun t ht => by simp at ht; omega) (HA.out.2.1).size
            exact ⟨rfl, by first | exact hb9 | (rw [← hX]; exact hb9)⟩
          · have t5d : decide (a < 0) = false := decide_eq_false hneg
            have hbig : 268435456 < a := by
              unfold arcOk at hbad
              rw [decide_eq_true (show 0 ≤ a by omega), Bool.true_and, decide_eq_false_iff_not] at hbad
              omega
            have t6d : decide (268435456 < a) = true := decide_eq_true hbig
            clear ha hbad hall
            go_wp2_with (refine wpList_store_arr rfl 25 (.tmp 2) (.tmp 43) rfl X 25 _ [.int .i64 0, .slice none 0 0, .slice none 0 0] HA.out.1 rfl rfl (by kernel_rfl) rfl rfl ?_; intro w9 hB9 hT9; have H9 := Lib.hid (And.intro hB9 hT9); clear hB9 hT9)
            refine bodyPost_ret (node_resB (f := zNF) rfl rfl H9.out.1) rfl ?_
            rw [HN.out]
            have hb9 : Below w.heap.size w w9 := below_turn (HA.out.2.1) H9.out.2 (fun t ht => by simp at ht; omega) (HA.out.2.1).size
            exact ⟨rfl, by first | exact hb9 | (rw [← hX]; exact hb9)⟩
        · have hgood : arcOk a = true := by cases hh : arcOk a with | true => rfl | false => exact absurd hh hbad
          have hg2 := hgood
          unfold arcOk at hg2
          rw [Bool.and_eq_true, decide_eq_true_eq, decide_eq_true_eq] at hg2
          obtain ⟨q1, q2⟩ := hg2
          have q3 : ¬ a < 0 := by omega
          have t5d : decide (a < 0) = false := decide_eq_false q3
          have q4 : ¬ 268435456 < a := by omega
          have t6d : decide (268435456 < a) = false := decide_eq_false q4
          have HG := Lib.hid (show (l.take (j + 1)).all arcOk = true by rw [List.take_add_one, ha, List.all_append, hall]; simp [hgood])
          clear ha hbad hall hgood
          go_wp2_with fail
          go_roundw
          case measure => simp [intOf]; omega
          exact ⟨j + 1, by omega, by simp, HG.out, trivial⟩
      · obtain rfl : j = m := by omega
        have hi : ¬ (j : Int) < j := by omega
        have hd : decide ((j : Int) < (j : Int)) = false := decide_eq_false hi
        rw [List.take_of_length_le (by have := HL.out.2.2.2.2; omega)] at hall
        have hokt : ok = true := by rw [← HOK.out]; exact hall
        have har : ∀ a ∈ l, 0 ≤ a ∧ a ≤ 268435456 := fun a ha => by
          have h9 := List.all_eq_true.1 hall a ha
          unfold arcOk at h9
          rw [Bool.and_eq_true, decide_eq_true_eq, decide_eq_true_eq] at h9
          exact h9
        obtain ⟨r0, r1⟩ := har a0 (List.mem_of_getElem? HL.out.1)
        obtain ⟨r2, r3⟩ := har a1 (List.mem_of_getElem? HL.out.2.1)
        have HAR := Lib.hid (And.intro har hokt)
        clear har hokt hall
        have w1 : IntKind.i64.wrap (40 * a0) = 40 * a0 := IntWalk.i64_in _ (by omega)
        have w2 : IntKind.i64.wrap (40 * a0 + a1) = 40 * a0 + a1 := IntWalk.i64_in _ (by omega)
        obtain ⟨U, hU⟩ : ∃ U : Nat, 40 * a0 + a1 = U := ⟨(40 * a0 + a1).toNat, by omega⟩
        have hUb : U < 536870912 := by omega
        rw [hU] at w2
        have HU := Lib.hid hU
        go_wp2_with fail
        refine region_old (by kernel_rfl) (fun wd hHeld hSz => ?_)
        have HSz := Lib.hid hSz
        clear hSz
        have hdg := digits_any U hUb wd
        have HO := Lib.hid hHeld
        refine takeL (i := 0) (v := ?_) rfl (by kernel_rfl) (by kernel_rfl) (by kernel_rfl) (fun _ _ _ h => h) (Or.inl ⟨by rfl, ?_⟩) hHeld ?_
        rotate_left
        focus (intro wq hSw; clear hSw; go_simp; try with_reducible rfl)
        try simp only [Act.put, List.setIfInBounds_toArray, List.set_cons_zero, List.set_cons_succ]
        refine takeL (i := 1) (v := ?_) rfl (by kernel_rfl) (by kernel_rfl) (by kernel_rfl) (fun _ _ _ h => h) (Or.inl ⟨by rfl, ?_⟩) hHeld ?_
        rotate_left
        focus (intro wq hSw; have n0 : 0 < j := (by omega); clear hSw; go_simp; try with_reducible rfl)
        try simp only [Act.put, List.setIfInBounds_toArray, List.set_cons_zero, List.set_cons_succ]
        refine takeL (i := 2) (v := ?_) rfl (by kernel_rfl) (by kernel_rfl) (by kernel_rfl) (fun _ _ _ h => h) (Or.inl ⟨by rfl, ?_⟩) hHeld ?_
        rotate_left
        focus (intro wq hSw; have ec0 := cell_old hSw c0; clear hSw; go_simp; try with_reducible rfl)
        try simp only [Act.put, List.setIfInBounds_toArray, List.set_cons_zero, List.set_cons_succ]
        refine takeL (i := 3) (v := ?_) rfl (by kernel_rfl) (by kernel_rfl) (by kernel_rfl) (fun _ _ _ h => h) (Or.inl ⟨by rfl, ?_⟩) hHeld ?_
        rotate_left
        focus (intro wq hSw; clear hSw; go_simp; try with_reducible rfl)
        try simp only [Act.put, List.setIfInBounds_toArray, List.set_cons_zero, List.set_cons_succ]
        refine takeL (i := 4) (v := ?_) rfl (by kernel_rfl) (by kernel_rfl) (by kernel_rfl) (fun _ _ _ h => h) (Or.inl ⟨by rfl, ?_⟩) hHeld ?_
        rotate_left
        focus (intro wq hSw; clear hSw; go_simp; try with_reducible rfl)
        try simp only [Act.put, List.setIfInBounds_toArray, List.set_cons_zero, List.set_cons_succ]
        refine takeL (i := 5) (v := ?_) rfl (by kernel_rfl) (by kernel_rfl) (by kernel_rfl) (fun _ _ _ h => h) (Or.inl ⟨by rfl, ?_⟩) hHeld ?_
        rotate_left
        focus (intro wq hSw; have n0 : 1 < j := (by omega); clear hSw; go_simp; try with_reducible rfl)
        try simp only [Act.put, List.setIfInBounds_toArray, List.set_cons_zero, List.set_cons_succ]
        refine takeL (i := 6) (v := ?_) rfl (by kernel_rfl) (by kernel_rfl) (by kernel_rfl) (fun _ _ _ h => h) (Or.inl ⟨by rfl, ?_⟩) hHeld ?_
        rotate_left
        focus (intro wq hSw; have ec1 := cell_old hSw c1; clear hSw; go_simp; try with_reducible rfl)
        try simp only [Act.put, List.setIfInBounds_toArray, List.set_cons_zero, List.set_cons_succ]
        refine takeL (i := 7) (v := ?_) rfl (by kernel_rfl) (by kernel_rfl) (by kernel_rfl) (fun _ _ _ h => h) (Or.inl ⟨by rfl, ?_⟩) hHeld ?_
        rotate_left
        focus (intro wq hSw; clear hSw; go_simp; try with_reducible rfl)
        try simp only [Act.put, List.setIfInBounds_toArray, List.set_cons_zero, List.set_cons_succ]
        refine wpAnyH_ready (rs := [8]) (by kernel_rfl) (by simp) ?_
        refine consL rfl (fun K hK => ?_) AllReadyH.nil
        go_simp
        refine hdg.mono ?_
        rintro e w4 ⟨A4, n4, c4, rfl, ho4, hb4⟩
        refine hK.out _ _ (Old.trans HO.out hb4) (fun hHeld => ?_)
        clear hK K
        try simp only [Act.put, List.setIfInBounds_toArray, List.set_cons_zero, List.set_cons_succ]
        refine wpAnyH_old (w1 := w4) (Old.trans HO.out hb4) (fun hHeld => ?_) (Old.refl _)
        refine takeL (i := 9) (v := ?_) rfl (by kernel_rfl) (by kernel_rfl) (by kernel_rfl) (fun _ _ _ h => h) (Or.inl ⟨by rfl, ?_⟩) hHeld ?_
        rotate_left
        focus (intro wq hSw; clear hSw; go_simp; try with_reducible rfl)
        try simp only [Act.put, List.setIfInBounds_toArray, List.set_cons_zero, List.set_cons_succ]
        refine wpAnyH_done (by kernel_rfl) ?_ _
        refine NoPanic.normal ?_
        have hO4 := ho4.mono (base' := X + 1) (by have := HSz.out; have := HA.out.2.2.1; omega)
        have hBw : Below w.heap.size w w4 := HA.out.2.1.trans ((HO.out.trans hb4).mono HA.out.2.1.size)
        have hX4 := (HA.out.1.below HO.out).below hb4
        have hR4 := (HA.out.2.2.2.below HO.out).below hb4
        have hs4 : X + 1 ≤ w4.heap.size := by have := (HO.out.trans hb4).size; have := HA.out.2.2.1; omega
        have H4 := Lib.hid (And.intro hO4 (And.intro hBw (And.intro hX4 (And.intro hR4 hs4))))
        have hn4 := Lib.hid hO4.len
        have hU2 := Lib.hid hU
        clear hHeld hdg ho4 hb4 hO4 hBw hX4 hR4 hs4 w1 w2 hU c0 c1
        have hjc := hc.1
        have hcm := hc.2
        unfold maxLen at hcm
        try simp only [Exit.then]
        go_upto_region 10 with fail
        go_cut [55, 56, 57] (fun s n k wx => ∃ A3 n3 c3, s = .slice A3 n3 c3 ∧ n = .int .i64 (n3 : Int) ∧ k = .int .i64 0 ∧ RdC Try.eI wx A3 n3 (l.drop 2) ∧ n3 ≤ 1000 ∧ (∀ ad, A3 = some ad → ad.block = g) ∧ wx = w4)
        case first =>
          have hj2 : 2 ≤ j := by omega
          have hdr := H4.out.2.2.2.1.drop c 2 hj2 hjc
          by_cases hc2 : c = 2
          · rw [if_pos hc2] at hdr
            have HD := Lib.hid hdr
            obtain rfl : j = 2 := by omega
            subst hc2
            clear hdr
            go_wp2_with fail
            go_meet
            exact ⟨_, _, _, rfl, rfl, rfl, HD.out, by omega, (fun ad h => by cases h; rfl), rfl⟩
          · rw [if_neg hc2] at hdr
            have hae : Option.map (fun x : Addr => x.add (2 * Try.eI.sz)) (some ⟨g, off, none⟩) = some ⟨g, off + 2, none⟩ := by rw [Option.map_some, Addr.add_mid]; rfl
            rw [hae] at hdr
            have HD := Lib.hid hdr
            clear hdr hae
            have hj2i : ((j : Int) - 2) = ((j - 2 : Nat) : Int) := by omega
            go_wp2_with fail
            go_meet
            exact ⟨_, _, _, rfl, rfl, rfl, HD.out, by omega, (fun ad h => by cases h; rfl), rfl⟩
        case rest =>
          obtain ⟨A3, n3, c3, rfl, rfl, rfl, hR3, hn3, hgb, hwe⟩ := hcut
          have hgX : g < X + 1 := by
            obtain ⟨g9, o9, e9, h9, _⟩ := HA.out.2.2.2.at_ HL.out.1
            injection e9 with e9
            injection e9 with e9 _
            have := HA.out.2.2.1
            omega
          have HGB := Lib.hid hgb
          clear hgb
          subst hwe
          obtain ⟨wH, hwH⟩ : ∃ wH, wH = wc := ⟨_, rfl⟩
          subst hwH
          have HR3 := Lib.hid hR3
          have hl3 := Lib.hid hR3.1
          clear hR3
          go_wp2_with fail
          go_loopw [6, 57] (fun bb kk wr => ∃ (k : Nat) (A : Option Addr) (nb cb : Nat), k ≤ n3 ∧ kk = .int .i64 (k : Int) ∧ bb = .slice A nb cb ∧ Own wr (X + 1) (.slice A nb cb) (dig U ++ digAll ((l.drop 2).take k)) ∧ nb ≤ 6 * (k + 1) ∧ Below (X + 1) wH wr) (fun _ kk _ => n3 - (intOf kk).toNat)
          case atStart => exact ⟨0, A4, n4, c4, by omega, rfl, rfl, by simp [digAll]; exact H4.out.1, by have := dig_len hUb; have := hn4.out; omega, Below.refl _ _⟩
          case round =>
            obtain ⟨k, A, nb, cb, hk, rfl, rfl, hO, hnb, hB⟩ := hrel
            have hRr : RdC Try.eI wr A3 n3 (l.drop 2) := HR3.out.keep hB.size (fun ad had => hB.block ad.block (by rw [HGB.out ad had]; exact hgX))
            have hX9 : X + 1 ≤ wr.heap.size := by have := hB.size; have := H4.out.2.2.2.2; omega
            by_cases hlt : k < n3
            · have hi : (k : Int) < n3 := by omega
              have hd : decide ((k : Int) < (n3 : Int)) = true := decide_eq_true hi
              have hk0 : ¬ ((k : Int) < 0) := by omega
              obtain ⟨a, ha⟩ : ∃ a, (l.drop 2)[k]? = some a := ⟨_, List.getElem?_eq_getElem (by have := hl3.out; omega)⟩
              obtain ⟨g3, off3, hAe, ca⟩ := int_at hRr ha
              subst hAe
              obtain ⟨q0, q1⟩ := HAR.out.1 a (List.mem_of_mem_drop (List.mem_of_getElem? ha))
              have hst := digAll_step ha
              obtain ⟨p, rfl⟩ := Int.eq_ofNat_of_zero_le q0
              rw [Int.toNat_natCast] at hst
              have hpb : p < 536870912 := by omega
              have hdg := digits_any p hpb wr
              have HS := Lib.hid (And.intro hO (And.intro hB (And.intro hst hX9)))
              have hln := Lib.hid hO.len
              clear hO hB hst ha hRr
              go_wp2_with fail
              refine hdg.mono ?_
              rintro e w5 ⟨A5, n5, c5, rfl, ho5, hb5⟩
              have H5 := Lib.hid (And.intro ho5.rd (And.intro (HS.out.1.below hb5) (HS.out.2.1.trans (hb5.mono HS.out.2.2.2))))
              clear ho5 hb5 hdg
              go_wp2_with (at_builtin; go_loud (refine wp_app2 (.tmp 61) (.tmp 63) (X + 1) (.slice A nb cb) _ H5.out.2.1 (by have := H5.out.2.2.size; have := H4.out.2.2.2.2; omega) A5 n5 c5 _ H5.out.1 (by have := hln.out; have := dig_len hpb; omega) rfl rfl rfl rfl ?_; intro A6 n6 c6 w6 hi6 hG; have H6 := Lib.hid hG; clear hG))
              go_roundw
              case measure => simp [intOf]; omega
              have h6l := H6.out.len
              rw [List.length_append] at h6l
              exact ⟨k + 1, A6, n6, c6, by omega, by simp, rfl, by rw [HS.out.2.2.1, ← List.append_assoc]; exact H6.out.own, by have := hln.out; have := dig_len hpb; omega, H5.out.2.2.trans H6.out.below⟩
            · obtain rfl : k = n3 := by omega
              have hi : ¬ (k : Int) < k := by omega
              have hd : decide ((k : Int) < (k : Int)) = false := decide_eq_false hi
              rw [List.take_of_length_le (by have := hl3.out; omega)] at hO
              have hob : oidB l = dig U ++ digAll (l.drop 2) := by
                unfold oidB
                rw [HL.out.2.2.1, HL.out.2.2.2.1, hU2.out]; rfl
              rw [← hob] at hO
              have HS := Lib.hid (And.intro hO (And.intro (H4.out.2.1.trans (hB.mono (by omega))) (H4.out.2.2.1.keep (hB.block X (by omega)))))
              clear hO hB hob hRr
              go_wp2_with (refine wpList_store_arr rfl 25 (.tmp 2) (.tmp 67) rfl X 25 _ [.int .i64 6, .slice A nb cb, .slice none 0 0] HS.out.2.2 rfl rfl (by kernel_rfl) rfl rfl ?_; intro w9 hB9 hT9; have H9 := Lib.hid (And.intro hB9 hT9); clear hB9 hT9)
              refine bodyPost_ret (node_resB (f := ⟨6, A, nb, cb, none, 0, 0⟩) rfl rfl H9.out.1) rfl ?_
              rw [HAR.out.2]
              have hb9 : Below w.heap.size w w9 := below_turn HS.out.2.1 H9.out.2 (fun t ht => by simp at ht; omega) HS.out.2.1.size
              have ho9 := (HS.out.1.turn H9.out.2 (fun g hg => by have := (HS.out.1.lt hg).1; simp; omega)).mono (base' := w.heap.size) (by omega)
              exact ⟨⟨⟨6, A, nb, cb, none, 0, 0⟩, rfl, NdR.leaf ho9 (by decide)⟩, by first | exact hb9 | (rw [← hX]; exact hb9)⟩
end Go.Proofs.Ytgkhhinjdojbhaa
