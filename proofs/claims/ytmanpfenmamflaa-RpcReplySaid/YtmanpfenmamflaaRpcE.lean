/-
  RpcBig: what is too long is refused.
-/
import Derived.Test.YtmanpfenmamflaaRpcE0
import Derived.Test.YtmanpfenmamflaaRpcD
namespace Go.Proofs.Ytmanpfenmamflaa
open Go.RowKit

theorem mkU8 (n : Nat) (hn : n ≤ 1000000) (w : World) : ∃ w1, (Instr.makeSlice 22 (.int .i64 (n : Int)) (.int .i64 (n : Int))).run Try.prog w = .ok (.slice (some ⟨w.heap.size, 0, none⟩) n n) w1 ∧ Own w1 w.heap.size (.slice (some ⟨w.heap.size, 0, none⟩) n n) (zs n) ∧ Below w.heap.size w w1 ∧ w1.heap.size = w.heap.size + 1 :=
  ⟨_, Try.prog_make n (by omega) w, Own.made w n (by unfold maxLen; omega), (Below.refl _ _).alloc (Nat.le_refl _) _, by simp⟩
theorem mkI (n : Nat) (hn : n ≤ 1000000) (w : World) : ∃ w1, (Instr.makeSlice 45 (.int .i64 (n : Int)) (.int .i64 (n : Int))).run Try.prog w = .ok (.slice (some ⟨w.heap.size, 0, none⟩) n n) w1 ∧ IntsAt w1 w1.heap.size ⟨some ⟨w.heap.size, 0, none⟩, n, n⟩ (List.replicate n 0) ∧ Below w.heap.size w w1 ∧ w1.heap.size = w.heap.size + 1 := by
  have hinf : (Try.prog.info? 3).map (fun i => (i.zero, i.size, i.bytes)) = some (some (.int .i64 0), 1, 8) := by kernel_rfl
  obtain ⟨i0, hi, hz0, hz1, hz2⟩ := info_parts hinf
  have hr := run_make (P := Try.prog) w 45 3 i0 (.int .i64 0) Try.underlying45 hi hz0 .i64 .i64 n n (by omega) (by omega) (by rw [hz2]; omega) (by omega)
  rw [hz1] at hr
  simp only [Int.toNat_natCast, Nat.mul_one] at hr
  refine ⟨_, hr, ⟨by simp, Nat.le_refl _, by unfold maxLen; simp; omega, .inr ⟨w.heap.size, 0, rfl, by simp, by simp, fun j x hj => ?_⟩⟩, (Below.refl _ _).alloc (Nat.le_refl _) _, by simp⟩
  have hb : Blk (w.alloc (.cells (madeCells (Value.int .i64 0).cells n) 3)) w.heap.size 3 (madeCells (Value.int .i64 0).cells n) := Blk.new _ _ _
  rw [hb.cell, Nat.zero_add, show (Value.int .i64 0).cells = #[.int .i64 0] from rfl, madeCells_one]
  have hjn : j < n := by
    rcases Nat.lt_or_ge j n with h | h
    · exact h
    · rw [List.getElem?_eq_none (by simpa using h)] at hj; cases hj
  rw [List.getElem?_replicate, if_pos hjn] at hj
  injection hj with hj
  subst hj
  simp [hjn]
theorem made2 (n j : Nat) (h : j < n) : (madeCells #[.int .i64 0, .slice none 0 0] (n * 2))[j * 2]? = some (.int .i64 0) ∧ (madeCells #[.int .i64 0, .slice none 0 0] (n * 2))[j * 2 + 1]? = some (.slice none 0 0) := by
  unfold madeCells
  constructor
  · rw [Array.getElem?_map, Array.getElem?_range, if_pos (by omega)]
    simp
  · rw [Array.getElem?_map, Array.getElem?_range, if_pos (by omega)]
    simp
theorem mkT (n : Nat) (hn : n ≤ 1000000) (w : World) : ∃ w1 cs, (Instr.makeSlice 25 (.int .i64 (n : Int)) (.int .i64 (n : Int))).run Try.prog w = .ok (.slice (some ⟨w.heap.size, 0, none⟩) n n) w1 ∧ Blk w1 w.heap.size 50 cs ∧ cs.size = n * 2 ∧ (∀ j, j < n → cs[j * 2]? = some (.int .i64 0) ∧ cs[j * 2 + 1]? = some (.slice none 0 0)) ∧ Below w.heap.size w w1 ∧ w1.heap.size = w.heap.size + 1 := by
  obtain ⟨i0, hi, hz0, hz1, hz2⟩ := info_parts Try.infoT
  have hr := run_make (P := Try.prog) w 25 50 i0 _ Try.underlying25 hi hz0 .i64 .i64 n n (by omega) (by omega) (by rw [hz2]; omega) (by omega)
  rw [hz1] at hr
  simp only [Int.toNat_natCast] at hr
  exact ⟨_, _, hr, Blk.new _ _ _, size_madeCells _ _, fun j hj => made2 n j hj, (Below.refl _ _).alloc (Nat.le_refl _) _, by simp⟩
theorem ats_zero {W : World} {b n : Nat} {cs : Array Value} (h : Blk W b 50 cs) (hc : ∀ j, j < n → cs[j * 2]? = some (.int .i64 0) ∧ cs[j * 2 + 1]? = some (.slice none 0 0)) : AtsAt W W.heap.size (some ⟨b, 0, none⟩) n (List.replicate n (0, [])) := by
  refine ⟨by simp, .inr ⟨b, 0, rfl, h.lt, h.lt, fun j t x hj => ?_⟩⟩
  have hjn : j < n := by
    rcases Nat.lt_or_ge j n with h | h
    · exact h
    · rw [List.getElem?_eq_none (by simpa using h)] at hj; cases hj
  rw [List.getElem?_replicate, if_pos hjn] at hj
  injection hj with hj
  injection hj with h1 h2
  subst h1 h2
  obtain ⟨c1, c2⟩ := hc j hjn
  refine ⟨by rw [h.cell, Nat.zero_add]; exact c1, none, 0, 0, by rw [h.cell, Nat.zero_add]; exact c2, RdB.nil _ _⟩
/-- The seventeen attributes, k of which have a value. -/
def BigI (Z k : Nat) (W : World) : Prop := ∃ cs, Blk W Z 50 cs ∧ cs.size = 34 ∧ ∀ j, j < 17 → cs[j * 2]? = some (.int .i64 0) ∧ ((j < k ∧ ∃ s : Sl, cs[j * 2 + 1]? = some (.slice s.A s.m s.c) ∧ Own W (Z + 1) (.slice s.A s.m s.c) (zs 16384)) ∨ (k ≤ j ∧ cs[j * 2 + 1]? = some (.slice none 0 0)))
theorem BigI.ats {Z : Nat} {W : World} (h : BigI Z 17 W) : AtsAt W W.heap.size (some ⟨Z, 0, none⟩) 17 (List.replicate 17 (0, zs 16384)) := by
  obtain ⟨cs, hb, hs, hc⟩ := h
  refine ⟨by simp, .inr ⟨Z, 0, rfl, hb.lt, hb.lt, fun j t x hj => ?_⟩⟩
  have hjn : j < 17 := by
    rcases Nat.lt_or_ge j 17 with h | h
    · exact h
    · rw [List.getElem?_eq_none (by simpa using h)] at hj; cases hj
  rw [List.getElem?_replicate, if_pos hjn] at hj
  injection hj with hj
  injection hj with h1 h2
  subst h1 h2
  obtain ⟨c1, ⟨_, s, c2, hO⟩ | ⟨h, _⟩⟩ := hc j hjn
  · exact ⟨by rw [hb.cell, Nat.zero_add]; exact c1, s.A, s.m, s.c, by rw [hb.cell, Nat.zero_add]; exact c2, RdB.ofRd hO.rd⟩
  · omega
theorem BigI.next {Z k : Nat} {W W1 : World} (h : BigI Z k W) (hk : k < 17) (hb : Below W.heap.size W W1) (s : Sl) (hO : Own W1 W.heap.size (.slice s.A s.m s.c) (zs 16384)) : BigI Z (k + 1) (W1.setCell ⟨Z, k * 2 + 1, none⟩ (.slice s.A s.m s.c)) := by
  obtain ⟨cs, hB, hs, hc⟩ := h
  have hZ := hB.lt
  have hT := (Turn.refl [Z] W1).setCell (p := ⟨Z, k * 2 + 1, none⟩) (.inl (by simp)) (.slice s.A s.m s.c)
  refine ⟨_, (hB.below hb).set_ _ _, by simpa using hs, fun j hj => ?_⟩
  obtain ⟨c1, c2⟩ := hc j hj
  refine ⟨by rw [Array.getElem?_setIfInBounds_ne (by omega)]; exact c1, ?_⟩
  by_cases hjk : j = k
  · subst hjk
    left
    refine ⟨by omega, s, ?_, (hO.mono (by omega)).turn hT (fun g hg hm => by have := (hO.lt hg).1; simp at hm; omega)⟩
    rw [Array.getElem?_setIfInBounds_self_of_lt (by omega)]
  · rw [Array.getElem?_setIfInBounds_ne (by omega)]
    rcases c2 with ⟨h1, s', h2, h3⟩ | ⟨h1, h2⟩
    · exact .inl ⟨by omega, s', h2, (h3.below hb).turn hT (fun g hg hm => by have := (h3.lt hg).1; simp at hm; omega)⟩
    · exact .inr ⟨by omega, h2⟩
set_option maxRecDepth 100000 in
set_option maxHeartbeats 4000000 in
theorem rpcBig_any (w : World) : Calls Try.prog 5 #[] w fun e w' => e = .returned (.bool true) ∧ Below w.heap.size w w' := by
  have key : ∀ w0, Below w.heap.size w w0 → Calls Try.prog 5 #[] w0 fun e w' => e = .returned (.bool true) ∧ Below w.heap.size w w' := by
    intro w0 hB0
    have HB0 := Lib.hid hB0
    clear hB0
    go_enter Try.func5, Try.ntmps5
    obtain ⟨m1, hr1, hO1, hb1, hs1⟩ := mkU8 65537 (by omega) w0
    rw [show ((65537 : Nat) : Int) = 65537 from rfl] at hr1
    have hB1 : Below w.heap.size w m1 := HB0.out.trans (hb1.mono HB0.out.size)
    have K1 := Lib.hid (And.intro hO1 hB1)
    clear hO1 hb1 hs1 hB1
    go_wp2_with fail
    clear hr1
    refine (call_o (cData (zs 65537)) zSl ⟨some ⟨w0.heap.size, 0, none⟩, 65537, 65537⟩ zSl zSl zSl m1 ⟨RdB.nil _ _, RdB.ofRd K1.out.1.rd, RdB.nil _ _, ⟨rfl, .inl rfl⟩, ⟨rfl, .inl rfl⟩, Nat.zero_le _, Nat.zero_le _⟩).mono ?_
    rintro e1 w1 ⟨hc1, hres⟩
    rw [bigA (zs 65537) (zs_len _)] at hres
    rcases hres with ⟨_, rfl⟩ | ⟨x, hx, _⟩
    rotate_left
    · cases hx
    have HB1 := Lib.hid (K1.out.2.trans (hc1.mono K1.out.2.size))
    clear hc1
    obtain ⟨m2, hr2, hO2, hb2, hs2⟩ := mkU8 65536 (by omega) w1
    rw [show ((65536 : Nat) : Int) = 65536 from rfl] at hr2
    have hB2 : Below w.heap.size w m2 := HB1.out.trans (hb2.mono HB1.out.size)
    have K2 := Lib.hid (And.intro hO2 hB2)
    clear hO2 hb2 hs2 hB2
    go_wp2_with fail
    clear hr2
    refine (call_o (cData (zs 65536)) zSl ⟨some ⟨w1.heap.size, 0, none⟩, 65536, 65536⟩ zSl zSl zSl m2 ⟨RdB.nil _ _, RdB.ofRd K2.out.1.rd, RdB.nil _ _, ⟨rfl, .inl rfl⟩, ⟨rfl, .inl rfl⟩, Nat.zero_le _, Nat.zero_le _⟩).mono ?_
    rintro e2 w2 ⟨hc2, hres⟩
    obtain ⟨y2, hy2⟩ := bigB (zs 65536) (zs_len _)
    rw [hy2] at hres
    rcases hres with ⟨hn, _⟩ | ⟨x, hx, A2, n2, c2, rfl, _⟩
    · cases hn
    clear hx hy2
    have HB2 := Lib.hid (K2.out.2.trans (hc2.mono K2.out.2.size))
    clear hc2
    obtain ⟨m3, hr3, hO3, hb3, hs3⟩ := mkU8 65536 (by omega) w2
    rw [show ((65536 : Nat) : Int) = 65536 from rfl] at hr3
    have hB3 : Below w.heap.size w m3 := HB2.out.trans (hb3.mono HB2.out.size)
    have K3 := Lib.hid (And.intro hO3 hB3)
    clear hO3 hb3 hs3 hB3
    go_wp2_with fail
    clear hr3
    refine (call_o (cMore (zs 65536)) zSl zSl ⟨some ⟨w2.heap.size, 0, none⟩, 65536, 65536⟩ zSl zSl m3 ⟨RdB.nil _ _, RdB.nil _ _, RdB.ofRd K3.out.1.rd, ⟨rfl, .inl rfl⟩, ⟨rfl, .inl rfl⟩, Nat.zero_le _, Nat.zero_le _⟩).mono ?_
    rintro e3 w3 ⟨hc3, hres⟩
    rw [bigC (zs 65536) (zs_len _)] at hres
    rcases hres with ⟨_, rfl⟩ | ⟨x, hx, _⟩
    rotate_left
    · cases hx
    have HB3 := Lib.hid (K3.out.2.trans (hc3.mono K3.out.2.size))
    clear hc3
    obtain ⟨m4, cs4, hr4, hb4, _, hc4, hl4, hs4⟩ := mkT 65 (by omega) w3
    rw [show ((65 : Nat) : Int) = 65 from rfl] at hr4
    have hB4 : Below w.heap.size w m4 := HB3.out.trans (hl4.mono HB3.out.size)
    have K4 := Lib.hid (And.intro (ats_zero hb4 hc4) hB4)
    clear hb4 hc4 hl4 hs4 hB4
    go_wp2_with fail
    clear hr4
    refine (call_o (cT1 (List.replicate 65 (0, []))) zSl zSl zSl ⟨some ⟨w3.heap.size, 0, none⟩, 65, 65⟩ zSl m4 ⟨RdB.nil _ _, RdB.nil _ _, RdB.nil _ _, K4.out.1, ⟨rfl, .inl rfl⟩, (show 65 ≤ maxLen by decide), Nat.zero_le _⟩).mono ?_
    rintro e4 w4 ⟨hc4, hres⟩
    rw [bigD _ (by simp)] at hres
    rcases hres with ⟨_, rfl⟩ | ⟨x, hx, _⟩
    rotate_left
    · cases hx
    have HB4 := Lib.hid (K4.out.2.trans (hc4.mono K4.out.2.size))
    clear hc4
    obtain ⟨m5, hr5, hO5, hb5, hs5⟩ := mkI 1025 (by omega) w4
    rw [show ((1025 : Nat) : Int) = 1025 from rfl] at hr5
    have hB5 : Below w.heap.size w m5 := HB4.out.trans (hb5.mono HB4.out.size)
    have K5 := Lib.hid (And.intro hO5 hB5)
    clear hO5 hb5 hs5 hB5
    go_wp2_with fail
    clear hr5
    refine (reply_o (rList (List.replicate 1025 0)) zSl ⟨some ⟨w4.heap.size, 0, none⟩, 1025, 1025⟩ zSl m5 ⟨RdB.nil _ _, K5.out.1, ⟨rfl, .inl rfl⟩, Nat.zero_le _⟩).mono ?_
    rintro e5 w5 ⟨hc5, hres⟩
    rw [bigE _ (by simp)] at hres
    rcases hres with ⟨_, rfl⟩ | ⟨x, hx, _⟩
    rotate_left
    · cases hx
    have HB5 := Lib.hid (K5.out.2.trans (hc5.mono K5.out.2.size))
    clear hc5
    obtain ⟨m6, hr6, hO6, hb6, hs6⟩ := mkU8 16385 (by omega) w5
    rw [show ((16385 : Nat) : Int) = 16385 from rfl] at hr6
    have K6 := Lib.hid (And.intro hO6 (And.intro hb6 hs6))
    clear hO6 hb6 hs6
    go_wp2_with fail
    clear hr6
    obtain ⟨m6', hm6'⟩ : ∃ m6', m6.alloc (.cells #[.int .i64 0, .slice (some ⟨w5.heap.size, 0, none⟩) 16385 16385] 50) = m6' := ⟨_, rfl⟩
    have hbx : Blk m6' m6.heap.size 50 #[.int .i64 0, .slice (some ⟨w5.heap.size, 0, none⟩) 16385 16385] := by rw [← hm6']; exact Blk.new _ _ _
    have hbm : Below m6.heap.size m6 m6' := by rw [← hm6']; exact (Below.refl _ _).alloc (Nat.le_refl _) _
    have hat : AtsAt m6' m6'.heap.size (some ⟨m6.heap.size, 0, none⟩) 1 [(0, zs 16385)] := by
      refine ⟨rfl, .inr ⟨m6.heap.size, 0, rfl, hbx.lt, hbx.lt, fun j t x hj => ?_⟩⟩
      match j with
      | 0 =>
        simp at hj
        obtain ⟨rfl, rfl⟩ := hj
        exact ⟨hbx.cell 0, _, _, _, hbx.cell 1, RdB.ofRd (K6.out.1.rd.below hbm)⟩
      | j + 1 => simp at hj
    have hB6 : Below w.heap.size w m6' := (HB5.out.trans (K6.out.2.1.mono HB5.out.size)).trans (hbm.mono (by have := HB5.out.size; have := K6.out.2.1.size; omega))
    rw [hm6']
    have K6' := Lib.hid (And.intro hat hB6)
    clear hm6' hbx hbm hat hB6
    refine (reply_o (rAttrs [(0, zs 16385)]) zSl zSl ⟨some ⟨m6.heap.size, 0, none⟩, 1, 1⟩ m6' ⟨RdB.nil _ _, ⟨rfl, Nat.le_refl _, Nat.zero_le _, .inl rfl⟩, K6'.out.1, (show 1 ≤ maxLen by decide)⟩).mono ?_
    rintro e6 w6 ⟨hc6, hres⟩
    rw [bigF (zs 16385) (zs_len _)] at hres
    rcases hres with ⟨_, rfl⟩ | ⟨x, hx, _⟩
    rotate_left
    · cases hx
    have HB6 := Lib.hid (K6'.out.2.trans (hc6.mono K6'.out.2.size))
    clear hc6
    obtain ⟨m7, cs7, hr7, hb7, hz7, hc7, hl7, hs7⟩ := mkT 17 (by omega) w6
    rw [show ((17 : Nat) : Int) = 17 from rfl] at hr7
    have hI0 : BigI w6.heap.size 0 m7 := ⟨cs7, hb7, hz7, fun j hj => ⟨(hc7 j hj).1, .inr ⟨Nat.zero_le _, (hc7 j hj).2⟩⟩⟩
    have K7 := Lib.hid (And.intro hI0 (And.intro (HB6.out.trans (hl7.mono HB6.out.size)) HB6.out.size))
    clear hI0 hb7 hz7 hc7 hl7 hs7
    go_wp2_with fail
    clear hr7
    generalize w6.heap.size = Z at *
    go_loopw [14] (fun kk wr => ∃ k : Nat, k ≤ 17 ∧ kk = .int .i64 (k : Int) ∧ BigI Z k wr ∧ Below w.heap.size w wr) (fun kk _ => 17 - (intOf kk).toNat)
    case atStart => exact ⟨0, by omega, rfl, K7.out.1, K7.out.2.1⟩
    case round =>
      obtain ⟨k, hk, rfl, hI, hBr⟩ := hrel
      by_cases hlt : k < 17
      · have hlti : (k : Int) < 17 := by omega
        have hltd : decide ((k : Int) < 17) = true := decide_eq_true hlti
        have hk0 : ¬ ((k : Int) < 0) := by omega
        obtain ⟨mr, hrr, hOr, hbr, hsr⟩ := mkU8 16384 (by omega) wr
        rw [show ((16384 : Nat) : Int) = 16384 from rfl] at hrr
        obtain ⟨cs, hBc, hsz, hcs⟩ := id hI
        have hbm := hBc.below hbr
        have fk := hbm.frozen (k * 2 + 1)
        obtain ⟨v, hv⟩ : ∃ v, cs[k * 2 + 1]? = some v := ⟨_, Array.getElem?_eq_getElem (by omega)⟩
        have qk : mr.cell? ⟨Z, k * 2 + 1, none⟩ = some v := (hbm.cell _).trans hv
        have HR := Lib.hid (And.intro hI (And.intro hBr (And.intro hOr (And.intro hbr hsr))))
        clear hI hBr hOr hbr hsr hBc hbm hcs hsz hv
        go_wp2_with fail
        go_roundw
        case measure => simp [intOf]; omega
        refine ⟨k + 1, by omega, by simp, HR.out.1.next hlt HR.out.2.2.2.1 ⟨some ⟨wr.heap.size, 0, none⟩, 16384, 16384⟩ HR.out.2.2.1, ?_⟩
        exact below_turn (HR.out.2.1.trans (HR.out.2.2.2.1.mono HR.out.2.1.size)) ((Turn.refl [Z] mr).setCell (p := ⟨Z, k * 2 + 1, none⟩) (.inl (by simp)) _) (by simp; exact K7.out.2.2) (Nat.le_trans HR.out.2.1.size HR.out.2.2.2.1.size)
      · obtain rfl : k = 17 := by omega
        have HR := Lib.hid (And.intro hI hBr)
        clear hI hBr
        go_wp2_with fail
        refine (call_o (cT1 (List.replicate 17 (0, zs 16384))) zSl zSl zSl ⟨some ⟨Z, 0, none⟩, 17, 17⟩ zSl wr ⟨RdB.nil _ _, RdB.nil _ _, RdB.nil _ _, HR.out.1.ats, ⟨rfl, .inl rfl⟩, (show 17 ≤ maxLen by decide), Nat.zero_le _⟩).mono ?_
        rintro e8 w8 ⟨hc8, hres⟩
        rw [bigG _ (by simp) (fun a ha => by rw [List.eq_of_mem_replicate ha]; exact zs_len _)] at hres
        rcases hres with ⟨_, rfl⟩ | ⟨x, hx, _⟩
        rotate_left
        · cases hx
        have HB8 := Lib.hid (HR.out.2.trans (hc8.mono HR.out.2.size))
        clear hc8
        go_wp2_with fail
        have hr9 : Rd (w8.alloc (.cells #[.int .u8 0, .int .u8 4, .int .u8 0, .int .u8 1] 5)) (some ⟨w8.heap.size, 0, none⟩) 4 4 [0, 4, 0, 1] := rd_lit (l2 := [0, 4, 0, 1]) rfl rfl (by decide)
        refine (next_any _ 4 4 [0, 4, 0, 1] _ hr9 (by decide)).mono ?_
        rintro e9 w9 ⟨A9, m9, c9, rfl, _, hb9⟩
        rw [show nxN [0, 4, 0, 1] = 0 by decide +kernel, show nxK [0, 4, 0, 1] = false by decide +kernel, show ((0 : Nat) : Int) = 0 from rfl]
        have HB9 := Lib.hid (HB8.out.trans (((Below.refl w.heap.size w8).alloc HB8.out.size (.cells #[.int .u8 0, .int .u8 4, .int .u8 0, .int .u8 1] 5)).trans (hb9.mono (by simp; have := HB8.out.size; omega))))
        clear hb9 hr9
        go_wp2_with fail
        have hr10 : Rd (w9.alloc (.cells #[.int .u8 0, .int .u8 4, .int .u8 0, .int .u8 0] 5)) (some ⟨w9.heap.size, 0, none⟩) 4 4 [0, 4, 0, 0] := rd_lit (l2 := [0, 4, 0, 0]) rfl rfl (by decide)
        refine (next_any _ 4 4 [0, 4, 0, 0] _ hr10 (by decide)).mono ?_
        rintro e10 w10 ⟨A10, m10, c10, rfl, _, hb10⟩
        rw [show nxN [0, 4, 0, 0] = 0 by decide +kernel, show nxK [0, 4, 0, 0] = true by decide +kernel, show ((0 : Nat) : Int) = 0 from rfl]
        have HB10 := Lib.hid (HB9.out.trans (((Below.refl w.heap.size w9).alloc HB9.out.size (.cells #[.int .u8 0, .int .u8 4, .int .u8 0, .int .u8 0] 5)).trans (hb10.mono (by simp; have := HB9.out.size; omega))))
        clear hb10 hr10
        go_wp2_with fail
        refine (begun_any w10).mono ?_
        rintro e11 w11 ⟨rfl, hb11⟩
        have HB11 := Lib.hid (HB10.out.trans (hb11.mono HB10.out.size))
        clear hb11
        go_wp2_with fail
        go_ret
        exact ⟨rfl, HB11.out⟩
  exact key w (Below.refl _ _)
end Go.Proofs.Ytmanpfenmamflaa
