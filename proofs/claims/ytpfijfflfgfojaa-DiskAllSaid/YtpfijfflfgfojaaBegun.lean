/-
  Contract of baileylaw13.begun.
-/
import Derived.Test.YtpfijfflfgfojaaDirty
import Derived.Test.YtpfijfflfgfojaaFull
import Derived.Lib.SlBytesConst
namespace Go.Proofs.Ytpfijfflfgfojaa
open Go.RowKit
attribute [local go_sem] Oper.semAt_some

theorem neqNilSeq (f : Nat) (caps : Array Value) (w : World) : (binOp .eql 45 (.func (.func f) #[] caps) .nilFunc).run Try.prog w = .ok (.bool false) w := by kernel_rfl

theorem asked (i : Int) (w : World) : Calls Try.prog 26 #[.int .i64 i] w fun e w' => e = .returned (.bool (i == 2)) ∧ w = w' := by
  go_enter Try.func26, Try.ntmps26
  go_wp2
  go_ret
  exact ⟨rfl, rfl⟩

theorem rd_one (w : World) (x : UInt8) (fr : Nat × Nat) : Rd (w.alloc (.cells #[.int .u8 x.toNat] 5 fr)) (some ⟨w.heap.size, 0, none⟩) 1 1 [x] := by
  refine ⟨rfl, Nat.le_refl _, by unfold maxLen; omega, .inr ⟨_, _, rfl, by simp, fun k y hk => ?_⟩⟩
  rw [World.cell?_alloc_mark]
  cases k with
  | zero => simp at hk; subst hk; rfl
  | succ k => simp at hk

def lA : List UInt8 := full [97] 256
theorem lA_len : lA.length = 256 := by unfold lA full; rw [if_neg (by omega), if_neg (by simp)]; exact fullTo_len _ _ _
theorem asks2 (s : Dsk) (B0 : Nat) : Asks 26 #[] s (fun i => i == 2) B0 [] (fun _ _ => True) where
  enters := fun _ _ => by kernel_rfl
  abide := fun _ _ _ _ _ => trivial
  typed := fun _ _ _ g hg => by simp at hg
  skip := fun _ _ _ _ _ => trivial
  ask := fun k w1 _ _ _ => (asked k w1).mono fun e w' ⟨he, hw⟩ => by
    subst hw
    refine ⟨?_, trivial, Turn.refl _ _⟩
    rw [he]
    congr 2
    rw [Bool.eq_iff_iff]
    simp
    omega
theorem notNil (a : Addr) (w : World) : (binOp .eql 24 (.pointer (some a)) (.pointer none)).run Try.prog w = .ok (.bool false) w := by kernel_rfl

def dk0 : Dsk := Dsk.new 3
def dk1 : Dsk := (dk0.put 0 lA).done
def dk2 : Dsk := (dk1.put 2 lA).done

def dk3 : Dsk := crashTo dk2 (fun i => i == 2) 3
theorem dk3_read0 : dk3.secs[0].read = zs 256 := rfl
theorem dk3_read2 : dk3.secs[2].read = lA := rfl
set_option maxHeartbeats 400000 in
theorem begun_any (w : World) : Calls Try.prog 5 #[] w fun e w' => e = .returned (.bool true) ∧ Below w.heap.size w w' := by
  refine calls_of_marks Try.func5 rfl ?_
  simp only [Try.ntmps5, List.size_toArray, List.length_cons, List.length_nil, Nat.reduceAdd, Nat.reduceSub, Array.replicate_succ, Array.replicate_zero, List.push_toArray, List.append_toArray, List.nil_append, List.cons_append]
  have hN := Lib.hid (new_in 3 (by omega) (by omega) w)
  rw [show ((3 : Nat) : Int) = 3 from rfl] at hN
  have kc := fun (w : World) (C : Array Value) (n c : Nat) => Lib.run_convert_bytes_const (P := Try.prog) w 28 5 C n c Try.underlying28 Try.underlying5
  go_wp2_with (first
    | (go_at_call 6; refine hN.out.mono ?_; rintro e w1 ⟨rfl, hA, hb⟩))
  obtain ⟨d, hd0, hd⟩ : ∃ d, w.heap.size ≤ d ∧ d = w.heap.size + 1 := ⟨_, by omega, rfl⟩
  obtain ⟨L, hL0, hL⟩ : ∃ L, w.heap.size ≤ L ∧ L = w.heap.size := ⟨_, by omega, rfl⟩
  rw [← hd, ← hL] at hA
  rw [← hd]
  clear hd hL
  refine (full_any _ _ _ _ [97] _ (rd_one w1 97 (1, 2))).mono ?_
  rintro e w2 ⟨g, rfl, hO, hb2⟩
  have hlA : (full [97] 256).length = 256 := lA_len
  rw [hlA] at hO ⊢
  have hb2' : Below w1.heap.size w1 w2 := ((Below.refl _ w1).alloc (Nat.le_refl _) _).trans (hb2.mono (by simp))
  have hA2 := hA.below hb2'
  have hat : At w2 g 0 lA := hO.at_
  have hW := write_in d L _ _ w2 hA2 rfl 0 (by decide) g 0 256 lA hat lA_len (by decide) (by decide)
  rw [show ((0 : Nat) : Int) = 0 from rfl] at hW
  have ho := (hO.ne hA2.1 (by decide))
  have ho' := (hO.ne hA2.2.1 (by decide))
  clear hlA hO hA hb2 hA2
  have hbw := hb.trans (hb2'.mono hb.size)
  clear hb hb2' kc hN
  go_wp2_with (go_at_call 9; (with_reducible refine hW.mono ?_); rintro e w3 ⟨rfl, ⟨ys, hA3⟩, hT3⟩)
  change DiskAt w3 d L ys dk1 at hA3
  have hgS : g ∉ [d, L] := by
    intro hm
    simp at hm
    rcases hm with rfl | rfl
    · exact ho rfl
    · exact ho' rfl
  have hat3 : At w3 g 0 lA := hat.keep hT3.size (hT3.block g hat.1 hgS)
  have hW2 := write_in d L _ _ w3 hA3 rfl 2 (by decide) g 0 256 lA hat3 lA_len (by decide) (by decide)
  rw [show ((2 : Nat) : Int) = 2 from rfl] at hW2
  have hD2 := fun w4 => dirty_any (some ⟨d, 0, none⟩) w4
  have hne := neqNilSeq
  clear hW hat ho ho' hat3 hA3
  go_wp2_with (first
    | (go_at_call 9; (with_reducible refine hW2.mono ?_); rintro e w4 ⟨rfl, ⟨zs4, hA4⟩, hT4⟩)
    | (go_at_call 21; (with_reducible refine (hD2 _).mono ?_); rintro e w5 ⟨rfl, rfl⟩))
  change DiskAt w4 d L zs4 dk2 at hA4
  have hT4' : Turn [d, L] w2 w4 := hT3.trans hT4 (fun x hx => .inl hx)
  have hb4 : Below w.heap.size w w4 := below_turn hbw hT4' (by intro t ht; simp at ht; rcases ht with rfl | rfl <;> assumption) hbw.size
  have hd4 : d < w4.heap.size := hA4.1.lt
  have hL4 : L < w4.heap.size := hA4.2.1.lt
  have hal : Below w4.heap.size w4 ((w4.alloc (.cells #[.pointer (some ⟨d, 0, none⟩)] 24)).alloc (.cells #[.int .i64 0] 3)) := ((Below.refl _ _).alloc (Nat.le_refl _) _).alloc (by simp) _
  have hA5 := hA4.below hal
  have hk5 : Blk ((w4.alloc (.cells #[.pointer (some ⟨d, 0, none⟩)] 24)).alloc (.cells #[.int .i64 0] 3)) (w4.heap.size + 1) 3 #[.int .i64 0] := by
    have := Blk.new (w4.alloc (.cells #[.pointer (some ⟨d, 0, none⟩)] 24)) 3 #[.int .i64 0]
    simpa using this
  have hbx5 : ((w4.alloc (.cells #[.pointer (some ⟨d, 0, none⟩)] 24)).alloc (.cells #[.int .i64 0] 3)).cell? ⟨w4.heap.size, 0, none⟩ = some (.pointer (some ⟨d, 0, none⟩)) := by
    simp
  have hb5 : Below w.heap.size w ((w4.alloc (.cells #[.pointer (some ⟨d, 0, none⟩)] 24)).alloc (.cells #[.int .i64 0] 3)) := hb4.trans (hal.mono hb4.size)
  have hz5 : ((w4.alloc (.cells #[.pointer (some ⟨d, 0, none⟩)] 24)).alloc (.cells #[.int .i64 0] 3)).heap.size = w4.heap.size + 2 := by simp
  have hbs := hb4.size
  clear hT3 hT4 hT4' hA4 hal hgS hW2 hD2 hne hbw
  revert hA5 hk5 hbx5 hb5 hz5
  generalize ((w4.alloc (.cells #[.pointer (some ⟨d, 0, none⟩)] 24)).alloc (.cells #[.int .i64 0] 3)) = w5
  intro hA5 hk5 hbx5 hb5 hz5
  generalize w4.heap.size = m at *
  refine wp_range0 (gf := 32) (lb := #[.pointer (some ⟨m, 0, none⟩)]) rfl (fun _ _ => by kernel_rfl) (dirty_iter m d L zs4 dk2)
    (fun k args W h => by obtain ⟨i, _, rfl⟩ := h; rfl) (by simp)
    (fun k W => Blk W (m + 1) 3 #[.int .i64 k] ∧ DiskAt W d L zs4 dk2 ∧ Below w.heap.size w W ∧ m + 2 ≤ W.heap.size) (fun _ _ _ => False) ?hI (fun _ _ _ _ _ h => h.elim) ?hM ?hA ⟨hk5, hA5, hb5, by omega⟩ ⟨hbx5, hA5⟩ ?hM1
    ?hbody ?hdone ?hstop
  case hI =>
    rintro k W1 W2 S ⟨h1, h2, h3, h4⟩ ht hS
    have hS' : ∀ t ∈ S, t = m + 3 ∧ NoRow W1 t := by
      intro t h
      rcases hS t h with h | ⟨h, r, hr⟩
      · simp at h
      · exact ⟨by omega, noRow_loop hr⟩
    exact ⟨h1.turn ht (fun h => by have := (hS' _ h).1; omega), h2.turn' ht (fun h => by have := (hS' _ h).1; omega) (fun h => by have := (hS' _ h).1; omega) (fun t h => (hS' t h).2),
      below_turn h3 ht (fun t h => by have := (hS' _ h).1; omega) h3.size, Nat.le_trans h4 ht.size⟩
  case hM =>
    rintro k W1 W2 ⟨h1, h2⟩ ⟨r, hr⟩ ht
    rw [hz5] at hr ht
    exact ⟨cell_turn h1 ht (by simp; omega), h2.turn' ht (by simp; omega) (by simp; omega) (fun t h => by simp at h; subst h; exact noRow_loop hr)⟩
  case hA => intro k args W1 W2 h _ _; exact h
  case hM1 => intro W ht; exact ⟨cell_turn hbx5 ht (by simp), hA5.turn' ht (by simp) (by simp) (by simp)⟩
  case hbody =>
    rintro l k args W hk hlt ⟨h1, h2, h3, h4⟩ ⟨h5, _⟩ ⟨i, _, rfl⟩
    have hN : k < 2 := hk
    have hc := h1.cell 0
    have hf := h1.frozen 0
    simp at hc
    have H1 := Lib.hid h1
    clear h1
    gi_wp2
    have ht : Turn [m + 1] W (W.setCell ⟨m + 1, 0, none⟩ (.int .i64 (k + 1))) := (Turn.refl _ _).setCell (.inl (by simp)) _
    have hd := h2.turn' ht (by simp; omega) (by simp; omega) (fun t h => by simp at h; subst h; exact H1.out.noRow (by decide))
    refine ⟨⟨_, ht, by simp; omega, by simp; omega⟩, ⟨?_, hd, below_turn h3 ht (by intro t h; simp at h; omega) h3.size, Nat.le_trans h4 ht.size⟩, cell_turn h5 ht (by simp), hd⟩
    have := H1.out.set_ 0 (.int .i64 (k + 1))
    simpa using this
  case hdone =>
    rintro W hlt ⟨h1, h2, h3, h4⟩ hK
    rw [show (dk2.wet dk2.secs.length).length = 2 from rfl] at h1
    rw [hz5] at hlt hK ⊢
    go_wp2_with fail
    have hC := crash_any d L 26 #[] zs4 dk2 (fun i => i == 2) [] (fun _ _ => True) W h2 (asks2 dk2 _) trivial (by simp) (by simp) (by simp)
    with_reducible refine hC.mono ?_
    rintro e w6 ⟨rfl, ⟨ys6, hA6⟩, _, hT6⟩
    change DiskAt w6 (W.heap.size + 1) W.heap.size ys6 dk3 at hA6
    have hk6 := h1.turn hT6 (by simp)
    have h26 := h2.turn' hT6 (by simp) (by simp) (by simp)
    have hb6 := below_turn h3 hT6 (by simp) h3.size
    have hK6 := (hT6.block _ (by omega) (by simp)).trans hK
    clear hC h1 h2 h3 hK hT6
    generalize W.heap.size = p at *
    go_wp2_with fail
    with_reducible refine (image_any d L zs4 dk2 w6 h26).mono ?_
    rintro e w7 ⟨v', rfl, hO7, hb7⟩
    have hil : dk2.image.length = 3 * 256 := by
      have := Dsk.imageTo_len h26 3 (Nat.le_refl _)
      rwa [show dk2.imageTo 3 = dk2.image from Dsk.imageTo_all dk2] at this
    obtain ⟨A7, c7, hv7, hr7, _⟩ := hO7.shape
    rw [hil] at hv7 hr7
    obtain ⟨b7, o7, hA7, hat7⟩ := hr7.addr (by omega)
    rw [hA7] at hv7
    rw [hv7]
    have hc7 := hr7.2.1
    have hcm7 := hr7.2.2.1
    have hX7 := hA6.below hb7
    have hk7 := hk6.below hb7
    have hd7 := h26.below hb7
    have hb7' := hb6.trans (hb7.mono hb6.size)
    have hK7 := (hb7.block _ (Array.getElem?_eq_some_iff.1 hK6).1).trans hK6
    have Hil := Lib.hid hil
    have hL7 := load_any b7 o7 3 c7 dk2.image w7 hat7 Hil.out hc7 hcm7 (by omega) (by omega)
    clear hv7 hr7 hA7 hO7 hA6 hk6 h26 hb6 hb7 hK6 hil hat7
    go_wp2_with fail
    with_reducible refine hL7.mono ?_
    rintro e w8 ⟨rfl, ⟨ys8, hY8⟩, hb8⟩
    have hX8 := hX7.below hb8
    have hk8 := hk7.below hb8
    have hd8 := hd7.below hb8
    have hb8' := hb7'.trans (hb8.mono hb7'.size)
    have hK8 := (hb8.block _ (Array.getElem?_eq_some_iff.1 hK7).1).trans hK7
    clear hL7 hX7 hk7 hd7 hb7' hK7 hb8
    generalize w7.heap.size = q at *
    have hkc := hk8.cell 0
    simp at hkc
    go_wp2_with fail
    have hct := count_any d L zs4 dk2 w8 hd8
    rw [show ((dk2.count : Nat) : Int) = 2 from rfl] at hct
    with_reducible refine hct.mono ?_
    rintro e w9 ⟨rfl, rfl⟩
    clear hct hkc hd8
    have hr0 := fun W (h : DiskAt W (p + 1) p ys6 dk3) => read_in (p + 1) p ys6 dk3 W h 0 (by decide)
    have hr2 := fun W (h : DiskAt W (p + 1) p ys6 dk3) => read_in (p + 1) p ys6 dk3 W h 2 (by decide)
    rw [show ((0 : Nat) : Int) = 0 from rfl] at hr0
    rw [show ((2 : Nat) : Int) = 2 from rfl] at hr2
    simp only [dk3_read0] at hr0
    simp only [dk3_read2] at hr2
    have Hr0 := Lib.hid hr0
    have Hr2 := Lib.hid hr2
    clear hr0 hr2 hk8 Hil hc7 hcm7
    go_wp2_with fail
    with_reducible refine (Hr0.out w8 hX8).mono ?_
    rintro e w9 ⟨g9, c9, rfl, hO9, _, hb9⟩
    have hX9 := hX8.below hb9
    have hY9 := hY8.below hb9
    have hb9' := hb8'.trans (hb9.mono hb8'.size)
    have hK9 := (hb9.block _ (Array.getElem?_eq_some_iff.1 hK8).1).trans hK8
    clear hO9 hX8 hY8 hb8' hK8 hb9
    go_wp2_with fail
    with_reducible refine (Hr0.out w9 hX9).mono ?_
    rintro e w10 ⟨g10, c10, rfl, hO10, _, hb10⟩
    have hX10 := hX9.below hb10
    have hY10 := hY9.below hb10
    have hb10' := hb9'.trans (hb10.mono hb9'.size)
    have hK10 := (hb10.block _ (Array.getElem?_eq_some_iff.1 hK9).1).trans hK9
    have z10 := hO10.at_.cell (k := 0) (by rw [zs_len]; omega)
    rw [show (zs 256)[0]'(by rw [zs_len]; omega) = 0 from rfl] at z10
    simp only [B, Nat.add_zero] at z10
    clear hO10 hX9 hY9 hb9' hK9 hb10
    go_wp2_with fail
    with_reducible refine (Hr2.out w10 hX10).mono ?_
    rintro e w11 ⟨g11, c11, rfl, hO11, _, hb11⟩
    have hY11 := hY10.below hb11
    have hb11' := hb10'.trans (hb11.mono hb10'.size)
    have hK11 := (hb11.block _ (Array.getElem?_eq_some_iff.1 hK10).1).trans hK10
    have z11 := hO11.at_.cell (k := 0) (by rw [lA_len]; omega)
    rw [show lA[0]'(by rw [lA_len]; omega) = 97 from rfl] at z11
    simp only [B, Nat.add_zero] at z11
    clear hO11 hX10 hY10 hb10' hK10 hb11 z10
    go_wp2_with fail
    have hs11 := sectors_any (q + 1) q ys8 (loadTo dk2.image 3 3) w11 hY11
    rw [show (((loadTo dk2.image 3 3).secs.length : Nat) : Int) = 3 from rfl] at hs11
    with_reducible refine hs11.mono ?_
    rintro e w12 ⟨rfl, rfl⟩
    clear hs11 hY11
    go_wp2
    refine ret_mark rfl hK11 (fun W' => results_tmp rfl _ _ _) ⟨rfl, ?_⟩
    exact below_turn hb11' ((Turn.refl [m + 2] _).putObj (.inl (by simp)) _) (by intro t h; simp at h; omega) hb11'.size
  case hstop => intro c k W _ _ h; exact h.elim
end Go.Proofs.Ytpfijfflfgfojaa
