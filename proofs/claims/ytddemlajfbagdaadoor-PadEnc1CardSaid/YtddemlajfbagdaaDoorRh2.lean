/-
  Contracts of the reference's helpers: pad.
-/
import Derived.Test.YtddemlajfbagdaaDoorZzRh1
namespace Go.Proofs.YtddemlajfbagdaaDoor
open Go.RowKit

/-- The last k bytes of a number, the highest one first. -/
def beTail (n : Nat) : Nat → List UInt8
  | 0 => []
  | k + 1 => UInt8.ofNat (n / 256 ^ k) :: beTail n k
theorem beTail_len (n k : Nat) : (beTail n k).length = k := by
  induction k with
  | zero => rfl
  | succ k ih => simp [beTail, ih]
theorem shr_byte (n k : Nat) (hk : k < 64) (hn : n < 2 ^ 64) : (UInt64.ofNat n >>> UInt64.ofNat k).toUInt8 = UInt8.ofNat (n / 2 ^ k) := by
  apply UInt8.toNat_inj.1
  rw [UInt64.toNat_toUInt8, UInt64.toNat_shiftRight, UInt64.toNat_ofNat', UInt64.toNat_ofNat', UInt8.toNat_ofNat', Nat.mod_eq_of_lt hn, Nat.mod_eq_of_lt (a := k) (by omega), Nat.mod_eq_of_lt hk, Nat.shiftRight_eq_div_pow]
theorem beTail_8 (n : Nat) (hn : n < 2 ^ 64) : beTail n 8 = bytes64 (UInt64.ofNat n) := by
  have h0 := shr_byte n 56 (by omega) hn
  have h1 := shr_byte n 48 (by omega) hn
  have h2 := shr_byte n 40 (by omega) hn
  have h3 := shr_byte n 32 (by omega) hn
  have h4 := shr_byte n 24 (by omega) hn
  have h5 := shr_byte n 16 (by omega) hn
  have h6 := shr_byte n 8 (by omega) hn
  have h7 : (UInt64.ofNat n).toUInt8 = UInt8.ofNat n := by
    apply UInt8.toNat_inj.1
    rw [UInt64.toNat_toUInt8, UInt64.toNat_ofNat', UInt8.toNat_ofNat', Nat.mod_eq_of_lt hn]
  unfold bytes64
  simp only [beTail]
  rw [show (56 : UInt64) = UInt64.ofNat 56 from rfl, show (48 : UInt64) = UInt64.ofNat 48 from rfl, show (40 : UInt64) = UInt64.ofNat 40 from rfl, show (32 : UInt64) = UInt64.ofNat 32 from rfl, show (24 : UInt64) = UInt64.ofNat 24 from rfl, show (16 : UInt64) = UInt64.ofNat 16 from rfl, show (8 : UInt64) = UInt64.ofNat 8 from rfl, h0, h1, h2, h3, h4, h5, h6, h7]
  simp
theorem shr_byte32 (n k : Nat) (hk : k < 32) (hn : n < 2 ^ 32) : (UInt32.ofNat n >>> UInt32.ofNat k).toUInt8 = UInt8.ofNat (n / 2 ^ k) := by
  apply UInt8.toNat_inj.1
  rw [UInt32.toNat_toUInt8, UInt32.toNat_shiftRight, UInt32.toNat_ofNat', UInt32.toNat_ofNat', UInt8.toNat_ofNat', Nat.mod_eq_of_lt hn, Nat.mod_eq_of_lt (a := k) (by omega), Nat.mod_eq_of_lt hk, Nat.shiftRight_eq_div_pow]
theorem beTail_4 (n : Nat) (hn : n < 2 ^ 32) : beTail n 4 = bytes32 (UInt32.ofNat n) := by
  have h4 := shr_byte32 n 24 (by omega) hn
  have h5 := shr_byte32 n 16 (by omega) hn
  have h6 := shr_byte32 n 8 (by omega) hn
  have h7 : (UInt32.ofNat n).toUInt8 = UInt8.ofNat n := by
    apply UInt8.toNat_inj.1
    rw [UInt32.toNat_toUInt8, UInt32.toNat_ofNat', UInt8.toNat_ofNat', Nat.mod_eq_of_lt hn]
  unfold bytes32
  simp only [beTail]
  rw [show (24 : UInt32) = UInt32.ofNat 24 from rfl, show (16 : UInt32) = UInt32.ofNat 16 from rfl, show (8 : UInt32) = UInt32.ofNat 8 from rfl, h4, h5, h6, h7]
  simp
theorem beTail_add (n j : Nat) (hn : n < 2 ^ 64) : beTail n (8 + j) = zs j ++ beTail n 8 := by
  induction j with
  | zero => rfl
  | succ j ih =>
    rw [← Nat.add_assoc, beTail, ih]
    have : n / 256 ^ (8 + j) = 0 := by
      apply Nat.div_eq_of_lt
      refine Nat.lt_of_lt_of_le hn ?_
      rw [Nat.pow_add]
      exact Nat.le_mul_of_pos_right _ (Nat.pow_pos (by omega))
    rw [this]
    rfl
/-- The reference's padding of a message of n bytes. -/
def rzeros (B n : Nat) : Nat := (B - (n + 1 + B / 8) % B) % B
def rpad (B : Nat) (l : List UInt8) : List UInt8 := l ++ [128] ++ zs (rzeros B l.length) ++ zs (B / 8 - 8) ++ bytes64 (UInt64.ofNat (l.length * 8))

theorem rpad_64 (l : List UInt8) (h : l.length ≤ 140737488352000) : rpad 64 l = l ++ [128] ++ zs (rzeros 64 l.length) ++ beTail (l.length * 8) 8 := by
  rw [beTail_8 _ (by omega)]; simp [rpad, zs]
theorem rpad_128 (l : List UInt8) (h : l.length ≤ 140737488352000) : rpad 128 l = l ++ [128] ++ zs (rzeros 128 l.length) ++ beTail (l.length * 8) 16 := by
  rw [show (16 : Nat) = 8 + 8 from rfl, beTail_add _ _ (by omega), beTail_8 _ (by omega)]; simp [rpad, zs]
/-- A slice's length, of a slot. -/
def sliceLen : Value → Nat
  | .slice _ n _ => n
  | _ => 0
theorem div_step (N k : Nat) : N / 256 ^ k / 256 = N / 256 ^ (k + 1) := by rw [Nat.div_div_eq_div_mul, Nat.pow_succ]
theorem set_tail (N c j : Nat) (h : j < c) : (zs (j + 1) ++ beTail N (c - (j + 1))).set j (UInt8.ofNat (N / 256 ^ (c - (j + 1)))) = zs j ++ beTail N (c - j) := by
  have e : c - j = (c - (j + 1)) + 1 := by omega
  rw [e, beTail]
  unfold zs
  rw [List.replicate_succ', List.append_assoc, List.set_append_right _ _ (by simp)]
  simp
theorem B_ofNat (n : Nat) : B (UInt8.ofNat n) = .int .u8 ((n : Int) % 256) := by
  unfold B
  rw [UInt8.toNat_ofNat']
  congr 1
theorem own_make (w : World) (n : Nat) (hn : n ≤ 1000) : Own (w.alloc (.cells (madeCells #[.int .u8 0] n) 5)) w.heap.size (.slice (some ⟨w.heap.size, 0, none⟩) n n) (zs n) := Own.made w n (by unfold maxLen; omega)

set_option maxHeartbeats 1000000 in
theorem pad_64 (A : Option Addr) (m c : Nat) (l : List UInt8) (w : World) (h : Rd w A m c l) (hl : l.length ≤ 140737488352000) :
    Calls Tryd.prog 73 #[.slice A m c, .int .i64 64, .int .i64 8] w fun e w' => ∃ v, e = .returned v ∧ Own w' w.heap.size v (rpad 64 l) ∧ Below w.heap.size w w' := by
  have hm := h.1
  have hm9 : (m : Int) ≤ 140737488352000 := by omega
  have HH := Lib.hid (And.intro h (And.intro hl hm))
  have hmk := Tryd.prog_make 8 (by omega)
  rw [show ((8 : Nat) : Int) = 8 from rfl] at hmk
  clear h hm hl
  go_enter Tryd.func73, Tryd.ntmps73
  go_wp2_with (first
    | (at_builtin; refine wp_app2 _ (.tmp 11) w.heap.size _ [] (Own.nil _ _) (Nat.le_refl _) A m c l HH.out.1 (by have := HH.out.2.1; simp; omega) rfl rfl rfl rfl ?_; intro A1 n1 c1 w1 hn1 hG1)
    | (at_builtin; go_must (refine wp_app_lit _ (.tmp 14) w.heap.size _ ([] ++ l) hG1.own hG1.below.size [128] (by have := HH.out.2.1; simp; omega) (by simp) rfl rfl rfl rfl rfl rfl ?_; intro A2 n2 c2 w2 hn2 hG2)))
  have h2 := HH.out.2.1
  have h3 := hG2.len
  have e2 : n2 = l.length + 1 + 0 := by simpa using h3
  have hO2 : Own w2 w.heap.size (.slice A2 n2 c2) (l ++ [128] ++ zs 0) := by simpa [zs] using hG2.own
  have hB2 : Below w.heap.size w w2 := (hG1.below.alloc hG1.below.size _).trans hG2.below
  have H2 := Lib.hid (And.intro e2 (And.intro hO2 hB2))
  clear hG1 hG2 h3 e2 hO2 hB2 hn1 hn2
  have hz : rzeros 64 l.length ≤ 64 := by unfold rzeros; omega
  go_loopw [7] (fun v wr => ∃ z A n c, z ≤ rzeros 64 l.length ∧ v = .slice A n c ∧ n = l.length + 1 + z ∧ Own wr w.heap.size (.slice A n c) (l ++ [128] ++ zs z) ∧ Below w.heap.size w wr) (fun v _ => rzeros 64 l.length + l.length + 1 - sliceLen v)
  case atStart => exact ⟨0, _, _, _, by omega, rfl, H2.out.1, H2.out.2.1, H2.out.2.2⟩
  case round =>
    obtain ⟨z, A3, n3, c3, hz3, rfl, e3, hO3, hB3⟩ := hrel
    have H3 := Lib.hid (And.intro e3 (And.intro hO3 hB3))
    have hn3 : (n3 : Int) ≤ 140737488353000 := by omega
    have hn30 : (0 : Int) ≤ (n3 : Int) := by omega
    by_cases hlt : z < rzeros 64 l.length
    · have ht : (((n3 : Int) % 64) != (64 - 8)) = true := by
        rw [bne_iff_ne]; unfold rzeros at hlt; omega
      simp only [Int.reduceSub] at ht
      clear e3 hO3 hB3 H2
      go_wp2_with (at_builtin; go_must (refine wp_app_lit _ (.tmp 25) w.heap.size _ (l ++ [128] ++ zs z) H3.out.2.1 H3.out.2.2.size [0] (by have := HH.out.2.1; simp [zs]; omega) (by simp) rfl rfl rfl rfl rfl rfl ?_; intro A4 n4 c4 w4 hn4 hG4))
      go_roundw
      case rel =>
        refine ⟨z + 1, _, _, _, hlt, rfl, by rw [hG4.len]; simp [zs]; omega, ?_, (H3.out.2.2.alloc H3.out.2.2.size _).trans hG4.below⟩
        have := hG4.own
        rw [List.append_assoc] at this
        rwa [show zs z ++ [0] = zs (z + 1) from by unfold zs; rw [List.replicate_succ']] at this
      case measure =>
        have := hG4.len
        have e3 := H3.out.1
        simp [sliceLen]; simp [zs] at this; omega
    · have hf : (((n3 : Int) % 64) != (64 - 8)) = false := by
        have : z = rzeros 64 l.length := by omega
        rw [bne_eq_false_iff_eq]; unfold rzeros at this; omega
      simp only [Int.reduceSub] at hf
      obtain rfl : z = rzeros 64 l.length := by omega
      clear e3 hO3 hB3 H2
      generalize wr = wo at *
      go_wp2
      have H4 := Lib.hid (And.intro ((own_make wo 8 (by omega)).mono H3.out.2.2.size) (And.intro (H3.out.2.1.alloc_ (.cells (madeCells #[.int .u8 0] 8) 5)) (H3.out.2.2.alloc H3.out.2.2.size (.cells (madeCells #[.int .u8 0] 8) 5))))
      have hne : ∀ q, (Value.slice A3 n3 c3).ownBlock = some q → q < wo.heap.size := fun q hq => (H3.out.2.1.lt hq).2
      have Hne := Lib.hid hne
      clear hne hmk hf hn3 hn30 hz
      obtain ⟨lz, hlz⟩ : ∃ lz, l ++ [128] ++ zs (rzeros 64 l.length) = lz := ⟨_, rfl⟩
      have H5 := Lib.hid hlz
      rw [hlz] at H4
      clear hlz hlt
      go_loopw [8, 10] (fun nv i wr => ∃ j : Nat, j ≤ 8 ∧ i = .int .i64 ((j : Int) - 1) ∧ nv = .int .u64 ((m * 8 / 256 ^ (8 - j) : Nat) : Int) ∧ Own wr w.heap.size (.slice (some ⟨wo.heap.size, 0, none⟩) 8 8) (zs j ++ beTail (m * 8) (8 - j)) ∧
          Own wr w.heap.size (.slice A3 n3 c3) lz ∧ Below w.heap.size w wr) (fun _ i _ => (intOf i + 1).toNat)
      case atStart => exact ⟨8, by omega, rfl, by simp, by simpa [beTail] using H4.out.1, H4.out.2.1, H4.out.2.2⟩
      case round =>
        obtain ⟨j, hj, rfl, rfl, hO, hM, hB⟩ := hrel
        rcases j with _ | j
        · rw [show (((0 : Nat) : Int) - 1) = -1 from rfl]
          have H6 := Lib.hid (And.intro hO (And.intro hM hB))
          clear hO hM hB
          go_wp2_with (at_builtin; go_must (refine wp_app2 (.tmp 47) (.tmp 48) w.heap.size _ lz H6.out.2.1 H6.out.2.2.size _ _ _ _ H6.out.1.rd (by rw [← H5.out]; have := HH.out.2.1; simp [zs, beTail_len]; unfold rzeros; omega) rfl rfl rfl rfl ?_; intro A7 n7 c7 w7 hn7 hG7))
          go_ret
          refine ⟨_, rfl, ?_, H6.out.2.2.trans hG7.below⟩
          have := hG7.own
          rw [← H5.out, HH.out.2.2] at this
          rw [rpad_64 _ HH.out.2.1]
          exact this
        · rw [show (((j + 1 : Nat) : Int) - 1) = (j : Int) from by omega]
          have hx : (zs (j + 1) ++ beTail (m * 8) (8 - (j + 1)))[j]? = some 0 := by
            rw [List.getElem?_append_left (by simp [zs])]; simp [zs]
          have hc := hO.cell j 0 hx
          have hfz := hO.frozen j
          have hO2 := hO.set_ j (UInt8.ofNat (m * 8 / 256 ^ (8 - (j + 1)))) (by omega)
          rw [set_tail _ _ _ (by omega)] at hO2
          have hM2 : Own (wr.setCell ⟨wo.heap.size, j, none⟩ (B (UInt8.ofNat (m * 8 / 256 ^ (8 - (j + 1)))))) w.heap.size (.slice A3 n3 c3) lz := hM.turn ((Turn.refl [wo.heap.size] wr).setCell (.inl (by simp)) _) (fun q hq hm => by have := Hne.out q hq; simp at hm; omega)
          have hB2 := hB.setCell (p := ⟨wo.heap.size, j, none⟩) H3.out.2.2.size (B (UInt8.ofNat (m * 8 / 256 ^ (8 - (j + 1)))))
          have hds := div_step (m * 8) (8 - (j + 1))
          rw [show 8 - (j + 1) + 1 = 8 - j from by omega] at hds
          rw [B_ofNat] at hO2 hM2 hB2
          have hq9 : ((m * 8 / 256 ^ (8 - (j + 1)) : Nat) : Int) ≤ 1125899906816000 := by
            have := Nat.div_le_self (m * 8) (256 ^ (8 - (j + 1)))
            omega
          generalize m * 8 / 256 ^ (8 - (j + 1)) = q at *
          have hq0 : (0 : Int) ≤ q := by omega
          have hj0 : (0 : Int) ≤ j := by omega
          have hj8 : (j : Int) < 8 := by omega
          have H6 := Lib.hid (And.intro hO2 (And.intro hM2 (And.intro hB2 hds)))
          clear hO hM hB hO2 hM2 hB2 hx hds
          go_wp2
          go_roundw
          case rel => exact ⟨j, by omega, rfl, by rw [← H6.out.2.2.2]; rfl, H6.out.1, H6.out.2.1, H6.out.2.2.1⟩
          case measure => simp [intOf]
set_option maxHeartbeats 1000000 in
theorem pad_128 (A : Option Addr) (m c : Nat) (l : List UInt8) (w : World) (h : Rd w A m c l) (hl : l.length ≤ 140737488352000) :
    Calls Tryd.prog 73 #[.slice A m c, .int .i64 128, .int .i64 16] w fun e w' => ∃ v, e = .returned v ∧ Own w' w.heap.size v (rpad 128 l) ∧ Below w.heap.size w w' := by
  have hm := h.1
  have hm9 : (m : Int) ≤ 140737488352000 := by omega
  have HH := Lib.hid (And.intro h (And.intro hl hm))
  have hmk := Tryd.prog_make 16 (by omega)
  rw [show ((16 : Nat) : Int) = 16 from rfl] at hmk
  clear h hm hl
  go_enter Tryd.func73, Tryd.ntmps73
  go_wp2_with (first
    | (at_builtin; refine wp_app2 _ (.tmp 11) w.heap.size _ [] (Own.nil _ _) (Nat.le_refl _) A m c l HH.out.1 (by have := HH.out.2.1; simp; omega) rfl rfl rfl rfl ?_; intro A1 n1 c1 w1 hn1 hG1)
    | (at_builtin; go_must (refine wp_app_lit _ (.tmp 14) w.heap.size _ ([] ++ l) hG1.own hG1.below.size [128] (by have := HH.out.2.1; simp; omega) (by simp) rfl rfl rfl rfl rfl rfl ?_; intro A2 n2 c2 w2 hn2 hG2)))
  have h2 := HH.out.2.1
  have h3 := hG2.len
  have e2 : n2 = l.length + 1 + 0 := by simpa using h3
  have hO2 : Own w2 w.heap.size (.slice A2 n2 c2) (l ++ [128] ++ zs 0) := by simpa [zs] using hG2.own
  have hB2 : Below w.heap.size w w2 := (hG1.below.alloc hG1.below.size _).trans hG2.below
  have H2 := Lib.hid (And.intro e2 (And.intro hO2 hB2))
  clear hG1 hG2 h3 e2 hO2 hB2 hn1 hn2
  have hz : rzeros 128 l.length ≤ 128 := by unfold rzeros; omega
  go_loopw [7] (fun v wr => ∃ z A n c, z ≤ rzeros 128 l.length ∧ v = .slice A n c ∧ n = l.length + 1 + z ∧ Own wr w.heap.size (.slice A n c) (l ++ [128] ++ zs z) ∧ Below w.heap.size w wr) (fun v _ => rzeros 128 l.length + l.length + 1 - sliceLen v)
  case atStart => exact ⟨0, _, _, _, by omega, rfl, H2.out.1, H2.out.2.1, H2.out.2.2⟩
  case round =>
    obtain ⟨z, A3, n3, c3, hz3, rfl, e3, hO3, hB3⟩ := hrel
    have H3 := Lib.hid (And.intro e3 (And.intro hO3 hB3))
    have hn3 : (n3 : Int) ≤ 140737488353000 := by omega
    have hn30 : (0 : Int) ≤ (n3 : Int) := by omega
    by_cases hlt : z < rzeros 128 l.length
    · have ht : (((n3 : Int) % 128) != (128 - 16)) = true := by
        rw [bne_iff_ne]; unfold rzeros at hlt; omega
      simp only [Int.reduceSub] at ht
      clear e3 hO3 hB3 H2
      go_wp2_with (at_builtin; go_must (refine wp_app_lit _ (.tmp 25) w.heap.size _ (l ++ [128] ++ zs z) H3.out.2.1 H3.out.2.2.size [0] (by have := HH.out.2.1; simp [zs]; omega) (by simp) rfl rfl rfl rfl rfl rfl ?_; intro A4 n4 c4 w4 hn4 hG4))
      go_roundw
      case rel =>
        refine ⟨z + 1, _, _, _, hlt, rfl, by rw [hG4.len]; simp [zs]; omega, ?_, (H3.out.2.2.alloc H3.out.2.2.size _).trans hG4.below⟩
        have := hG4.own
        rw [List.append_assoc] at this
        rwa [show zs z ++ [0] = zs (z + 1) from by unfold zs; rw [List.replicate_succ']] at this
      case measure =>
        have := hG4.len
        have e3 := H3.out.1
        simp [sliceLen]; simp [zs] at this; omega
    · have hf : (((n3 : Int) % 128) != (128 - 16)) = false := by
        have : z = rzeros 128 l.length := by omega
        rw [bne_eq_false_iff_eq]; unfold rzeros at this; omega
      simp only [Int.reduceSub] at hf
      obtain rfl : z = rzeros 128 l.length := by omega
      clear e3 hO3 hB3 H2
      generalize wr = wo at *
      go_wp2
      have H4 := Lib.hid (And.intro ((own_make wo 16 (by omega)).mono H3.out.2.2.size) (And.intro (H3.out.2.1.alloc_ (.cells (madeCells #[.int .u8 0] 16) 5)) (H3.out.2.2.alloc H3.out.2.2.size (.cells (madeCells #[.int .u8 0] 16) 5))))
      have hne : ∀ q, (Value.slice A3 n3 c3).ownBlock = some q → q < wo.heap.size := fun q hq => (H3.out.2.1.lt hq).2
      have Hne := Lib.hid hne
      clear hne hmk hf hn3 hn30 hz
      obtain ⟨lz, hlz⟩ : ∃ lz, l ++ [128] ++ zs (rzeros 128 l.length) = lz := ⟨_, rfl⟩
      have H5 := Lib.hid hlz
      rw [hlz] at H4
      clear hlz hlt
      go_loopw [8, 10] (fun nv i wr => ∃ j : Nat, j ≤ 16 ∧ i = .int .i64 ((j : Int) - 1) ∧ nv = .int .u64 ((m * 8 / 256 ^ (16 - j) : Nat) : Int) ∧ Own wr w.heap.size (.slice (some ⟨wo.heap.size, 0, none⟩) 16 16) (zs j ++ beTail (m * 8) (16 - j)) ∧
          Own wr w.heap.size (.slice A3 n3 c3) lz ∧ Below w.heap.size w wr) (fun _ i _ => (intOf i + 1).toNat)
      case atStart => exact ⟨16, by omega, rfl, by simp, by simpa [beTail] using H4.out.1, H4.out.2.1, H4.out.2.2⟩
      case round =>
        obtain ⟨j, hj, rfl, rfl, hO, hM, hB⟩ := hrel
        rcases j with _ | j
        · rw [show (((0 : Nat) : Int) - 1) = -1 from rfl]
          have H6 := Lib.hid (And.intro hO (And.intro hM hB))
          clear hO hM hB
          go_wp2_with (at_builtin; go_must (refine wp_app2 (.tmp 47) (.tmp 48) w.heap.size _ lz H6.out.2.1 H6.out.2.2.size _ _ _ _ H6.out.1.rd (by rw [← H5.out]; have := HH.out.2.1; simp [zs, beTail_len]; unfold rzeros; omega) rfl rfl rfl rfl ?_; intro A7 n7 c7 w7 hn7 hG7))
          go_ret
          refine ⟨_, rfl, ?_, H6.out.2.2.trans hG7.below⟩
          have := hG7.own
          rw [← H5.out, HH.out.2.2] at this
          rw [rpad_128 _ HH.out.2.1]
          exact this
        · rw [show (((j + 1 : Nat) : Int) - 1) = (j : Int) from by omega]
          have hx : (zs (j + 1) ++ beTail (m * 8) (16 - (j + 1)))[j]? = some 0 := by
            rw [List.getElem?_append_left (by simp [zs])]; simp [zs]
          have hc := hO.cell j 0 hx
          have hfz := hO.frozen j
          have hO2 := hO.set_ j (UInt8.ofNat (m * 8 / 256 ^ (16 - (j + 1)))) (by omega)
          rw [set_tail _ _ _ (by omega)] at hO2
          have hM2 : Own (wr.setCell ⟨wo.heap.size, j, none⟩ (B (UInt8.ofNat (m * 8 / 256 ^ (16 - (j + 1)))))) w.heap.size (.slice A3 n3 c3) lz := hM.turn ((Turn.refl [wo.heap.size] wr).setCell (.inl (by simp)) _) (fun q hq hm => by have := Hne.out q hq; simp at hm; omega)
          have hB2 := hB.setCell (p := ⟨wo.heap.size, j, none⟩) H3.out.2.2.size (B (UInt8.ofNat (m * 8 / 256 ^ (16 - (j + 1)))))
          have hds := div_step (m * 8) (16 - (j + 1))
          rw [show 16 - (j + 1) + 1 = 16 - j from by omega] at hds
          rw [B_ofNat] at hO2 hM2 hB2
          have hq9 : ((m * 8 / 256 ^ (16 - (j + 1)) : Nat) : Int) ≤ 1125899906816000 := by
            have := Nat.div_le_self (m * 8) (256 ^ (16 - (j + 1)))
            omega
          generalize m * 8 / 256 ^ (16 - (j + 1)) = q at *
          have hq0 : (0 : Int) ≤ q := by omega
          have hj0 : (0 : Int) ≤ j := by omega
          have hj8 : (j : Int) < 16 := by omega
          have H6 := Lib.hid (And.intro hO2 (And.intro hM2 (And.intro hB2 hds)))
          clear hO hM hB hO2 hM2 hB2 hx hds
          go_wp2
          go_roundw
          case rel => exact ⟨j, by omega, rfl, by rw [← H6.out.2.2.2]; rfl, H6.out.1, H6.out.2.1, H6.out.2.2.1⟩
          case measure => simp [intOf]

theorem four_any (n : Int) (w : World) (h0 : 0 ≤ n) (h1 : n ≤ 4294967295) : Calls Tryd.prog 56 #[.int .i64 n] w fun e w' => e = .returned (.slice (some ⟨w.heap.size, 0, none⟩) 4 4) ∧ Own w' w.heap.size (.slice (some ⟨w.heap.size, 0, none⟩) 4 4) (num4 n) ∧ Below w.heap.size w w' := by
  obtain ⟨m, rfl⟩ := Int.eq_ofNat_of_zero_le h0
  go_enter Tryd.func56, Tryd.ntmps56
  go_wp2
  go_ret
  have e : num4 (m : Int) = beTail m 4 := by
    rw [beTail_4 m (by omega)]
    unfold num4
    congr 2
    omega
  rw [e]
  refine ⟨rfl, own_lit ?_ rfl (by simp [beTail]), (Below.refl _ _).alloc (Nat.le_refl _) _⟩
  simp only [beTail, List.map_cons, List.map_nil, B_ofNat]
  simp only [Nat.reducePow, Nat.pow_zero, Nat.div_one]
  congr 4
  all_goals omega

theorem join_any (A : Option Addr) (m c : Nat) (ls : List (List UInt8)) (w : World) (hp : PartsAt w A m c ls) (hl : ls.flatten.length ≤ 140737488355000) :
    Calls Tryd.prog 39 #[.slice A m c] w fun e w' => ∃ v, e = .returned v ∧ Own w' w.heap.size v ls.flatten ∧ Below w.heap.size w w' := by
  have hm := hp.1
  have hcm := hp.2.2.1
  have hmc := hp.2.1
  unfold maxLen at hcm
  have HP := Lib.hid (And.intro hp (And.intro hm hl))
  clear hp hm hl
  go_enter Tryd.func39, Tryd.ntmps39
  go_wp2
  go_loopw [3, 4] (fun v i wr => ∃ (k : Nat) (A : Option Addr) (n c : Nat), k ≤ m ∧ i = .int .i64 k ∧ v = .slice A n c ∧ Own wr w.heap.size (.slice A n c) (ls.take k).flatten ∧ Below w.heap.size w wr) (fun _ i _ => m - (intOf i).toNat)
  case atStart => exact ⟨0, _, _, _, by omega, rfl, rfl, Own.nil _ _, Below.refl _ _⟩
  case round =>
    obtain ⟨k, A1, n1, c1, hk, rfl, rfl, hO, hB⟩ := hrel
    have H1 := Lib.hid (And.intro hO hB)
    clear hO hB
    rcases Nat.lt_or_ge k m with hlt | hge
    · obtain ⟨b, off, rfl, hbl, hcell⟩ := HP.out.1.2.2.2 (by omega)
      obtain ⟨l, hl⟩ : ∃ l, ls[k]? = some l := ⟨_, List.getElem?_eq_getElem (by rw [← HP.out.2.1]; exact hlt)⟩
      obtain ⟨A', m', c', hc, hr⟩ := hcell k l hl
      have hc' := (H1.out.2.cell (p := ⟨b, off + k, none⟩) hbl).trans hc
      have hki : (k : Int) < m := by omega
      have hk0 : (0 : Int) ≤ k := by omega
      have hfl : (ls.take (k + 1)).flatten = (ls.take k).flatten ++ l := by rw [List.take_add_one, hl]; simp
      have hle : ((ls.take k).flatten ++ l).length ≤ 140737488355000 := by
        have h1 : ls.flatten = (ls.take (k + 1)).flatten ++ (ls.drop (k + 1)).flatten := by rw [← List.flatten_append, List.take_append_drop]
        have h2 := HP.out.2.2
        rw [h1, hfl, List.length_append] at h2
        omega
      have H2 := Lib.hid (And.intro hfl (And.intro (hr.below H1.out.2) hle))
      clear hcell hl hc hr hlt hfl hle hk
      go_wp2_with (at_builtin; go_must (refine wp_app2 (.tmp 11) (.tmp 15) w.heap.size _ (ls.take k).flatten H1.out.1 H1.out.2.size _ _ _ l H2.out.2.1 (by have := H2.out.2.2; rw [List.length_append] at this; omega) rfl rfl rfl rfl ?_; intro A7 n7 c7 w7 hn7 hG7))
      go_roundw
      case rel => exact ⟨k + 1, _, _, _, by omega, by go_num, rfl, by rw [H2.out.1]; exact hG7.own, H1.out.2.trans hG7.below⟩
      case measure => simp [intOf]; omega
    · obtain rfl : k = m := by omega
      have hq : ¬ ((k : Int) < k) := by omega
      clear hk hge
      go_wp2
      go_ret
      refine ⟨_, rfl, ?_, H1.out.2⟩
      have := H1.out.1
      rwa [List.take_of_length_le (by rw [← HP.out.2.1]; omega)] at this
end Go.Proofs.YtddemlajfbagdaaDoor
