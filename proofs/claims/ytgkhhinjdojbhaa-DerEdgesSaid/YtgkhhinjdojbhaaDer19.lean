/-
  DER: Int, Nat.
-/
import Derived.Test.YtgkhhinjdojbhaaDer18
import Derived.Test.YtgkhhinjdojbhaaNumA
namespace Go.Proofs.Ytgkhhinjdojbhaa
open Go.RowKit

theorem bl_len (l : List UInt64) : bl (valL l) ≤ 64 * l.length := bl_le (by
  have := valL_lt l
  rw [Nat.pow_mul]
  exact this)
theorem node_res1 {fn : Func} {tmps : Array Value} {W : World} {R : Nat} {f : NF} {p : Tmp} (hr : fn.results = #[.cell p 25]) (hp : tmps.getD p undef = .pointer (some ⟨R, 0, none⟩)) (hb : Blk W R 25 f.cells.toArray) :
    (results fn tmps).run Try.prog W = .ok f.val W := by
  have z0 := hb.cell 0
  have z1 := hb.cell 1
  have z2 := hb.cell 2
  simp only [NF.cells, List.getElem?_toArray, List.getElem?_cons_succ, List.getElem?_cons_zero] at z0 z1 z2
  have hp' : tmps[p]?.getD undef = .pointer (some ⟨R, 0, none⟩) := by simpa using hp
  simp [results, hr, go_sem, hp', z0, z1, z2, NF.val]
/-- A number's node. -/
def intNd (v : Nat) : Nd := .mk 2 (beN (bl v / 8 + 1) v) []
/-- A node of bytes alone, made anew. -/
theorem NdR.leaf {B : Nat} {w : World} {t : Int} {A1 : Option Addr} {n1 c1 : Nat} {l : List UInt8} (h : Own w B (.slice A1 n1 c1) l) (ht : t ≠ 48) : NdR (fun b => B ≤ b ∧ b < w.heap.size) NB w ⟨t, A1, n1, c1, none, 0, 0⟩ (.mk t l []) :=
  NdR.mk ⟨t, A1, n1, c1, none, 0, 0⟩ l [] [] h.rd (fun a ha => ⟨h.blk_le ha, h.rd.lt a ha⟩) ⟨rfl, .inl rfl⟩ (Nat.zero_le _) (fun a ha => by cases ha) (fun h => absurd h ht) rfl (by simp)
set_option maxRecDepth 100000 in
set_option maxHeartbeats 8000000 in
theorem int_any (A : Option Addr) (m c : Nat) (l : List UInt64) (w : World) (h : RdC Try.eU w A m l) (hc : m ≤ c ∧ c ≤ maxLen) (hnil : A = none → c = 0) (hm : m ≤ 1000) :
    Calls Try.prog 20 #[.slice A m c] w fun e w' => ∃ f : NF, e = .returned f.val ∧ NdR (fun b => w.heap.size ≤ b ∧ b < w'.heap.size) NB w' f (intNd (valL l)) ∧ Below w.heap.size w w' := by
  obtain ⟨X, hX⟩ : ∃ X, w.heap.size = X := ⟨_, rfl⟩
  obtain ⟨wA, hwA⟩ : ∃ wA, w.alloc (.cells #[.int .i64 0, .slice none 0 0, .slice none 0 0] 25) = wA := ⟨_, rfl⟩
  have bA : Blk wA X 25 #[.int .i64 0, .slice none 0 0, .slice none 0 0] := by rw [← hwA, ← hX]; exact Blk.new _ _ _
  have hbA : Below w.heap.size w wA := by rw [← hwA]; exact (Below.refl _ _).alloc (Nat.le_refl _) _
  have hsA : wA.heap.size = X + 1 := by rw [← hwA, ← hX]; simp
  have hR := h.below hbA
  have hb := bits_any A m c l wA hR hc hnil (by omega)
  have hbl := bl_len l
  have hlm := h.1
  obtain ⟨bv, hbv⟩ : ∃ bv, bl (valL l) = bv := ⟨_, rfl⟩
  rw [hbv] at hb hbl
  obtain ⟨q, hq⟩ : ∃ q, bv / 8 = q := ⟨_, rfl⟩
  have hq1 : (bv : Int).tdiv 8 = (q : Int) := by rw [Int.tdiv_eq_ediv_of_nonneg (by omega)]; omega
  have hby := bytes_any A m c l (q + 1) wA hR hc hnil (by omega) (by omega) (by rw [hbv]; omega)
  rw [show ((q + 1 : Nat) : Int) = (q : Int) + 1 by simp] at hby
  have hqb : q ≤ 10000 := by omega
  have HA := Lib.hid (And.intro bA (And.intro hbA (And.intro hsA (show bl (valL l) / 8 = q by rw [hbv]; exact hq))))
  have HY := Lib.hid hby
  have HX := Lib.hid hX
  clear bA hbA hsA hR h hby hbv hq hlm hbl
  go_enter Try.func20, Try.ntmps20
  go_wp2_with fail
  try rw [hX]
  try rw [hwA]
  go_wp2_with fail
  refine hb.mono ?_
  rintro e w1 ⟨rfl, rfl⟩
  clear hb
  go_wp2_with fail
  refine HY.out.mono ?_
  rintro e w2 ⟨A1, n1, c1, rfl, ho, hb2⟩
  have H2 := Lib.hid (And.intro ho (And.intro (HA.out.1.below hb2) (HA.out.2.1.trans (hb2.mono HA.out.2.1.size))))
  clear ho hb2
  go_wp2_with (refine wpList_store_arr rfl 25 (.tmp 2) (.tmp 15) rfl X 25 _ [.int .i64 2, .slice A1 n1 c1, .slice none 0 0] H2.out.2.1 rfl rfl (by kernel_rfl) rfl rfl ?_; intro w9 hB9 hT9; have H9 := Lib.hid (And.intro hB9 hT9); clear hB9 hT9)
  refine bodyPost_ret (node_res1 (f := ⟨2, A1, n1, c1, none, 0, 0⟩) rfl rfl H9.out.1) rfl ?_
  have hb9 : Below w.heap.size w w9 := below_turn H2.out.2.2 H9.out.2 (fun t ht => by simp at ht; omega) H2.out.2.2.size
  have hs := HA.out.2.2.1
  have ho9 := (H2.out.1.turn H9.out.2 (fun g hg => by have := (H2.out.1.lt hg).1; simp; omega)).mono (base' := w.heap.size) (by omega)
  refine ⟨⟨2, A1, n1, c1, none, 0, 0⟩, rfl, ?_, hb9⟩
  unfold intNd
  rw [HA.out.2.2.2]
  exact NdR.leaf ho9 (by decide)
/-- What Nat gives. -/
def NatPost (w w' : World) (e : Ending) (n : Nd) : Bool → Prop
  | false => e = .returned (.tuple #[.slice none 0 0, .bool false])
  | true => ∃ g n1 c1, e = .returned (.tuple #[.slice (some ⟨g, 0, none⟩) n1 c1, .bool true]) ∧ w.heap.size ≤ g ∧ n1 ≤ c1 ∧ c1 ≤ maxLen ∧ RdC Try.eU w' (some ⟨g, 0, none⟩) n1 (trimL (limbsN ((n.b.length + 7) / 8) (beVal n.b)))
def Nd.isNat (n : Nd) : Bool := decide (n.tag = 2) && n.may
set_option maxRecDepth 100000 in
set_option maxHeartbeats 8000000 in
theorem nat_any (P : Nat → Prop) (Z : NF → Prop) (n : Nd) (f : NF) (w : World) (hN : NdR P Z w f n) (hP : ∀ b, P b → b < w.heap.size) (hl : n.b.length ≤ 1000000) :
    Calls Try.prog 21 #[f.val] w fun e w' => NatPost w w' e n n.isNat ∧ Below w.heap.size w w' := by
  obtain ⟨X, hX⟩ : ∃ X, w.heap.size = X := ⟨_, rfl⟩
  obtain ⟨tag, A1, m1, c1, A2, m2, c2⟩ := f
  obtain ⟨wA, hwA⟩ : ∃ wA, w.alloc (.cells #[.int .i64 tag, .slice A1 m1 c1, .slice A2 m2 c2] 25) = wA := ⟨_, rfl⟩
  have bA : Blk wA X 25 #[.int .i64 tag, .slice A1 m1 c1, .slice A2 m2 c2] := by rw [← hwA, ← hX]; exact Blk.new _ _ _
  have hbA : Below w.heap.size w wA := by rw [← hwA]; exact (Below.refl _ _).alloc (Nat.le_refl _) _
  obtain ⟨g0, g1, g2⟩ : wA.cell? ⟨X, 0, none⟩ = some (.int .i64 tag) ∧ wA.cell? ⟨X, 1, none⟩ = some (.slice A1 m1 c1) ∧ wA.cell? ⟨X, 2, none⟩ = some (.slice A2 m2 c2) := by rw [bA.cell, bA.cell, bA.cell]; exact ⟨rfl, rfl, rfl⟩
  have hPA : ∀ b, P b → b < wA.heap.size := fun b hb => by have := hP b hb; have := hbA.size; omega
  have hNA := hN.bel hbA hP
  obtain ⟨htag, hbs⟩ : n.tag = tag ∧ Rd wA A1 m1 c1 n.b := by
    cases hNA with
    | mk _ bs fs ks hb => exact ⟨rfl, hb⟩
  have hc := mayTop_any P Z n ⟨tag, A1, m1, c1, A2, m2, c2⟩ wA hNA hPA
  obtain ⟨iv, hiv⟩ : ∃ iv, n.isNat = iv := ⟨_, rfl⟩
  rw [hiv]
  unfold Nd.isNat at hiv
  rw [htag] at hiv
  obtain ⟨mv, hmv⟩ : ∃ mv, n.may = mv := ⟨_, rfl⟩
  rw [hmv] at hc hiv
  have hlb := hbs.1
  have HB := Lib.hid (And.intro hbA (And.intro bA (And.intro hbs hlb)))
  clear hbA bA hN hNA hPA hmv htag hbs hlb
  simp only [NF.val] at hc ⊢
  by_cases h2 : tag = 2
  · subst h2
    rw [show (decide ((2 : Int) = 2) && mv) = mv from rfl] at hiv
    subst hiv
    go_enter Try.func21, Try.ntmps21
    go_wp2_with fail
    try rw [hX]
    try rw [hwA]
    go_wp2_with fail
    refine hc.mono ?_
    rintro e w1 ⟨rfl, hb1⟩
    have H1 := Lib.hid (And.intro (HB.out.2.2.1.below hb1) (HB.out.1.trans (hb1.mono HB.out.1.size)))
    obtain ⟨q0, q1, q2⟩ : w1.cell? ⟨X, 0, none⟩ = some (.int .i64 2) ∧ w1.cell? ⟨X, 1, none⟩ = some (.slice A1 m1 c1) ∧ w1.cell? ⟨X, 2, none⟩ = some (.slice A2 m2 c2) := by rw [(HB.out.2.1.below hb1).cell, (HB.out.2.1.below hb1).cell, (HB.out.2.1.below hb1).cell]; exact ⟨rfl, rfl, rfl⟩
    clear hb1 hc
    cases mv with
    | false =>
      go_wp2_with fail
      go_ret2
      exact ⟨rfl, by first | exact H1.out.2 | (rw [← hX]; exact H1.out.2)⟩
    | true =>
      have hf := fromBytes_any A1 m1 c1 n.b w1 H1.out.1 (by have := HB.out.2.2.2; omega)
      go_wp2_with fail
      refine hf.mono ?_
      rintro e w2 ⟨g, n3, c3, rfl, hg, hn3, hc3, hr, hb2⟩
      have H2 := Lib.hid (And.intro hg (And.intro hn3 (And.intro hc3 (And.intro hr (H1.out.2.trans (hb2.mono H1.out.2.size))))))
      clear hg hn3 hc3 hr hb2
      go_wp2_with fail
      go_ret2
      exact ⟨⟨g, n3, c3, rfl, by have := H2.out.1; have := H1.out.2.size; omega, H2.out.2.1, H2.out.2.2.1, by have h9 := H2.out.2.2.2.1; rw [HB.out.2.2.2] at h9; exact h9⟩, by first | exact H2.out.2.2.2.2 | (rw [← hX]; exact H2.out.2.2.2.2)⟩
  · have h2d : (tag == 2) = false := by simp [h2]
    rw [decide_eq_false h2, Bool.false_and] at hiv
    subst hiv
    clear hc
    go_enter Try.func21, Try.ntmps21
    go_wp2_with fail
    try rw [hX]
    try rw [hwA]
    go_wp2_with fail
    go_ret2
    exact ⟨rfl, by first | exact HB.out.1 | (rw [← hX]; exact HB.out.1)⟩
end Go.Proofs.Ytgkhhinjdojbhaa
