/-
  begun of the AES laws: one block is told.
-/
import Derived.Test.YtgkkafkdgmdihaaAesJ
import Derived.Test.YtgkkafkdgmdihaaAes4
import Derived.Lib.SlBytesConst
namespace Go.Proofs.Ytgkkafkdgmdihaa
open Go.RowKit
attribute [local go_sem] Oper.semAt_some

def KEY : List UInt8 := [0, 1, 2, 3, 4, 5, 6, 7, 8, 9, 10, 11, 12, 13, 14, 15]
def PT : List UInt8 := [0, 17, 34, 51, 68, 85, 102, 119, 136, 153, 170, 187, 204, 221, 238, 255]
def CT : List UInt8 := [105, 196, 224, 216, 106, 123, 4, 48, 216, 205, 183, 128, 112, 180, 197, 90]
theorem enc_known : encL (rks KEY) 11 PT = CT := by decide +kernel
theorem neSeq (f : FuncId) (lb : Array Value) (w : World) : (binOp .eql 31 (.func (.func f) #[] lb) Value.nilFunc).run Try.prog w = .ok (.bool false) w := by kernel_rfl
set_option maxRecDepth 100000 in
set_option maxHeartbeats 4000000 in
theorem begun_any (w : World) : Calls Try.prog 6 #[] w fun e w' => e = .returned (.bool true) ∧ Below w.heap.size w w' := by
  obtain ⟨wk, hwk⟩ : ∃ wk, w.alloc (.cells #[.int .u8 0, .int .u8 1, .int .u8 2, .int .u8 3, .int .u8 4, .int .u8 5, .int .u8 6, .int .u8 7, .int .u8 8, .int .u8 9, .int .u8 10, .int .u8 11, .int .u8 12, .int .u8 13, .int .u8 14, .int .u8 15] 5) = wk := ⟨_, rfl⟩
  have hbk : Below w.heap.size w wk := by rw [← hwk]; exact (Below.refl _ _).alloc (Nat.le_refl _) _
  have hrk : Rd wk (some ⟨w.heap.size, 0, none⟩) 16 16 KEY := by rw [← hwk]; exact rd_lit (l2 := KEY) rfl rfl (by omega)
  have hn := new_any _ _ _ _ wk hrk (.inl rfl)
  obtain ⟨ks, hks⟩ : ∃ ks, ks = rks KEY := ⟨_, rfl⟩
  have hkl := rks_len KEY (.inl rfl)
  have hkn := enc_known
  rw [← hks] at hn hkl hkn
  have HN := Lib.hid hn
  obtain ⟨pt, hpt⟩ : ∃ pt, pt = PT := ⟨_, rfl⟩
  rw [← hpt] at hkn
  obtain ⟨ct, hct⟩ : ∃ ct, ct = encL ks 11 pt := ⟨_, rfl⟩
  rw [← hct] at hkn
  have HCt := Lib.hid hct
  have HKn := Lib.hid hkn
  have Hpt := Lib.hid hpt
  have hkl' : ks.length = 176 := hkl
  have Hkl := Lib.hid hkl'
  clear hn hks hkl hkn hct hpt hkl'
  have HK := Lib.hid (And.intro hbk hrk)
  clear hbk hrk
  refine calls_of_marks Try.func6 rfl ?_
  simp only [Try.ntmps6, List.size_toArray, List.length_cons, List.length_nil, Nat.reduceAdd, Nat.reduceSub, Array.replicate_succ, Array.replicate_zero, List.push_toArray, List.append_toArray, List.nil_append, List.cons_append]
  go_upto_region 2 with fail
  clear hwk
  go_wp2_with fail
  refine HN.out.mono ?_
  rintro e w2 ⟨c, K, R, cq, rfl, hC, hB2⟩
  have hR : R = 11 := by
    have h1 := hC.2.2.2.2.2.1
    have h2 := Hkl.out
    omega
  subst hR
  obtain ⟨w3, hw3⟩ : ∃ w3, w2.alloc (.cells #[.int .u8 0, .int .u8 17, .int .u8 34, .int .u8 51, .int .u8 68, .int .u8 85, .int .u8 102, .int .u8 119, .int .u8 136, .int .u8 153, .int .u8 170, .int .u8 187, .int .u8 204, .int .u8 221, .int .u8 238, .int .u8 255] 5 (16, 17)) = w3 := ⟨_, rfl⟩
  have kc := Lib.run_convert_bytes_const (P := Try.prog) w2 22 5 #[.int .u8 0, .int .u8 17, .int .u8 34, .int .u8 51, .int .u8 68, .int .u8 85, .int .u8 102, .int .u8 119, .int .u8 136, .int .u8 153, .int .u8 170, .int .u8 187, .int .u8 204, .int .u8 221, .int .u8 238, .int .u8 255] 16 16 Try.underlying22 Try.underlying5
  rw [show ((#[.int .u8 0, .int .u8 17, .int .u8 34, .int .u8 51, .int .u8 68, .int .u8 85, .int .u8 102, .int .u8 119, .int .u8 136, .int .u8 153, .int .u8 170, .int .u8 187, .int .u8 204, .int .u8 221, .int .u8 238, .int .u8 255] : Array Value).size, (#[.int .u8 0, .int .u8 17, .int .u8 34, .int .u8 51, .int .u8 68, .int .u8 85, .int .u8 102, .int .u8 119, .int .u8 136, .int .u8 153, .int .u8 170, .int .u8 187, .int .u8 204, .int .u8 221, .int .u8 238, .int .u8 255] : Array Value).size + 1) = (16, 17) from rfl, hw3] at kc
  have hb3 : Below w2.heap.size w2 w3 := by rw [← hw3]; exact (Below.refl _ _).alloc (Nat.le_refl _) _
  have hrp : Rd w3 (some ⟨w2.heap.size, 0, none⟩) 16 16 pt := by
    rw [← hw3, Hpt.out]
    exact Rd.of_blk (l := PT) (fr := (16, 17)) (heap_alloc_new w2 _) (by unfold maxLen; decide)
  clear hw3
  have HE := Lib.hid (enc_any _ _ _ _ _ _ _ _ _ w3 (hC.below hb3) hrp)
  rw [← HCt.out] at HE
  have hC3 := hC.below hb3
  have hB3 : Below wk.heap.size wk w3 := hB2.trans (hb3.mono hB2.size)
  have H3 := Lib.hid (And.intro hC3 hB3)
  clear hC hB2 hb3 hrp hC3 hB3
  go_upto_region 6 with (go_at_call 10; refine HE.out.mono ?_; rintro e w4 ⟨sb, rfl, hsb, hS4, hB4⟩; have H4 := Lib.hid (And.intro hsb (And.intro hS4 hB4)); clear hsb hS4 hB4)
  clear kc
  go_wp2_with fail
  refine (keysOf_any _ _ rfl).mono ?_
  rintro e w5 ⟨rfl, hw5⟩
  have hb5 : Below w4.heap.size w4 w5 := by rw [hw5]; exact (Below.refl _ _).alloc (Nat.le_refl _) _
  have hz5 : w5.heap.size = w4.heap.size + 1 := by rw [hw5]; simp
  have hX5 : Blk w5 w4.heap.size 25 #[.pointer (some ⟨c, 0, none⟩)] := by rw [hw5]; exact Blk.new _ _ _
  have H5 := Lib.hid (And.intro hb5 (And.intro hz5 hX5))
  clear hw5 hb5 hz5 hX5
  have kn := neSeq
  go_wp2_with fail
  obtain ⟨w6, hw6⟩ : ∃ w6, w5.alloc (.cells #[.int .i64 0] 3) = w6 := ⟨_, rfl⟩
  rw [hw6]
  clear kn
  have hb6 : Below w5.heap.size w5 w6 := by rw [← hw6]; exact (Below.refl _ _).alloc (Nat.le_refl _) _
  have hk6 : Blk w6 w5.heap.size 3 #[.int .i64 0] := by rw [← hw6]; exact Blk.new _ _ _
  have hz6 : w6.heap.size = w5.heap.size + 1 := by rw [← hw6]; simp
  have hCx : Cip w6 wk.heap.size c ks K 11 cq := ((H3.out.1.below H4.out.2.2).below H5.out.1).below hb6
  have hXx := H5.out.2.2.below hb6
  have hSx : St w6 sb ct := (⟨H4.out.2.1.1, (H4.out.2.1.2.below H5.out.1).below hb6⟩ : St w6 sb ct)
  have hBx : Below wk.heap.size wk w6 := ((H3.out.2.trans (H4.out.2.2.mono H3.out.2.size)).trans (H5.out.1.mono (by have := H3.out.2.size; have := H4.out.2.2.size; omega))).trans (hb6.mono (by have := H3.out.2.size; have := H4.out.2.2.size; have := H5.out.1.size; omega))
  have hsbl : sb < w6.heap.size := hSx.lt
  have hcl : c < w6.heap.size := hCx.1.2.2.lt
  have hKl : K < w6.heap.size := hCx.2.2.2.1
  have hz56 : w5.heap.size = w4.heap.size + 1 := H5.out.2.1
  have hsb4 : sb < w4.heap.size := H4.out.2.1.lt
  have hc4 : c < w4.heap.size := by have h1 := H3.out.1.1.2.2.lt; have h2 := H4.out.2.2.size; omega
  have hK4 : K < w4.heap.size := by have h1 := H3.out.1.2.2.2.1; have h2 := H4.out.2.2.size; omega
  have hwk4 : wk.heap.size ≤ w4.heap.size := Nat.le_trans H3.out.2.size H4.out.2.2.size
  have H6 := Lib.hid (And.intro hCx (And.intro hXx (And.intro hSx (And.intro hBx hk6))))
  clear hCx hXx hSx hBx hb6 hk6 hw6
  generalize hkb : w5.heap.size = kb at *
  have hkb1 : w4.heap.size < kb := by omega
  have hkb2 : kb < w6.heap.size := by omega
  have HKB := Lib.hid (And.intro hz56 hz6)
  clear hz56 hz6 hkb
  refine wp_range0 (gf := 25) (lb := #[.pointer (some ⟨w4.heap.size, 0, none⟩)]) (T := []) rfl (fun _ _ => by kernel_rfl)
    (keys_iter w4.heap.size wk.heap.size c ks K 11 cq w6.heap.size) (fun k args W h => by obtain ⟨A, cq, rfl, _⟩ := h; rfl) (by simp)
    (fun k W => Blk W kb 3 #[.int .i64 (k : Int)] ∧ Turn [kb] w6 W)
    (fun _ _ _ => False)
    ?hI ?hIx ?hM ?hA ⟨H6.out.2.2.2.2, Turn.refl _ _⟩ ?hM0 ?hM1 ?hbody ?hdone ?hstop
  case hI =>
    rintro k W1 W2 S ⟨h1, h2⟩ ht hS
    have hS' : ∀ t ∈ S, w6.heap.size < t := by
      intro t h
      rcases hS t h with h | ⟨h, _⟩
      · cases h
      · omega
    exact ⟨h1.turn ht (fun h => by have := hS' _ h; omega), h2.trans ht (fun x hx => .inr (by have := hS' _ hx; omega))⟩
  case hIx => rintro c k W1 W2 S h; exact h.elim
  case hM =>
    rintro k W1 W2 hM ⟨r, hr⟩ ht
    exact hM.turn ht (by simp) k
  case hA =>
    rintro k args W1 W2 ⟨A, cq, rfl, hrd, hge⟩ ⟨r, hr⟩ ht
    refine ⟨A, cq, rfl, hrd.turn ht (fun ad had hm => ?_), hge⟩
    obtain ⟨b, off, e, ha⟩ := hrd.addr (by omega)
    rw [e] at had
    cases had
    simp at hm
    have hkl : (key ks k).length = 16 := hrd.1.symm
    obtain ⟨y, hy⟩ := at16 _ hkl 0 (by omega)
    have := ha.2 0 y hy
    subst hm
    simp [World.cell?, hr] at this
  case hM0 => exact ⟨H6.out.2.1, H6.out.1, Nat.le_refl _, by omega, by omega, by omega⟩
  case hM1 =>
    intro W ht
    exact keyMine.turn (k := 0) ⟨H6.out.2.1, H6.out.1, Nat.le_refl _, by omega, by omega, by omega⟩ ht (by simp) 0
  case hbody =>
    rintro l' k args W hkN hlt ⟨h1, h2⟩ hMi ⟨A', cq', rfl, hrd, hge⟩
    have k0 := h1.cell 0
    have f0 := h1.frozen 0
    simp only [List.getElem?_toArray, List.getElem?_cons_zero] at k0
    have g1 : IntKind.i64.wrap ((k : Int) + 1) = (k : Int) + 1 := IntWalk.i64_in _ (by omega)
    have hb := Lib.hid (And.intro h1 (And.intro h2 hMi))
    clear h1 h2 hMi hrd hge
    gi_wp2
    have hT := (Turn.refl [kb] W).setCell (p := ⟨kb, 0, none⟩) (.inl (by simp)) (.int .i64 ((k : Int) + 1))
    refine ⟨⟨[kb], hT, by simp; omega, by simp; omega⟩, ⟨?_, hb.out.2.1.trans hT (fun x hx => .inl hx)⟩, hb.out.2.2.turn2 hT (by simp; omega) (by simp; omega) (by simp; omega) k⟩
    have := hb.out.1.set_ 0 (.int .i64 ((k : Int) + 1))
    simpa using this
  case hdone =>
    rintro W hlt ⟨h1, h2⟩ hKd
    have k0 := h1.cell 0
    simp only [List.getElem?_toArray, List.getElem?_cons_zero] at k0
    have hCW : Cip W wk.heap.size c ks K 11 cq := (H6.out.2.1 |> fun _ => by
      obtain ⟨c1, c2, c3, c4, c5, c6, c7, c8, c9, c10, c11⟩ := H6.out.1
      refine ⟨⟨c1.1, c1.2.1, c1.2.2.turn h2 (by simp; omega)⟩, c2, c3, Nat.lt_of_lt_of_le c4 h2.size, c5, c6, c7, c8, c9, c10, fun j x hx => ?_⟩
      rw [World.cell?_of_block (a := ⟨K, j, none⟩) (h2.block K c4 (by simp; omega))]; exact c11 j x hx)
    have hSW := H6.out.2.2.1.turn h2 (by simp; omega)
    have hBW := below_turn H6.out.2.2.2.1 h2 (by simp; omega) H6.out.2.2.2.1.size
    have hrW := HK.out.2.below hBW
    have hstr := hSW.rd.str
    rw [HKn.out] at hstr
    have hT := gtimes_any _ _ _ _ KEY KEY W hrW hrW
    have HT := Lib.hid hT
    have HW := Lib.hid (And.intro hCW (And.intro hSW (And.intro hBW hrW)))
    clear hCW hSW hBW hrW hT h1 h2
    unfold CT at hstr
    go_wp2_with fail
    refine HT.out.mono ?_
    rintro e wt ⟨g1, c1, rfl, _, hbt⟩
    have hrt := HW.out.2.2.2.below hbt
    have HGh := Lib.hid (gh_any _ none 16 0 0 KEY [] wt hrt (Rd.nil _))
    have HBt := Lib.hid hbt
    clear hbt hrt HT hstr k0
    go_wp2_with fail
    refine HGh.out.mono ?_
    rintro e wu ⟨g2, c2, rfl, _, hbu⟩
    have hWu := HBt.out.trans (hbu.mono HBt.out.size)
    have HDe := Lib.hid (dec_any _ _ _ _ _ _ _ _ _ wu (HW.out.1.below hWu) (show Rd wu (some ⟨sb, 0, none⟩) 16 16 ct from St.rd ⟨HW.out.2.1.1, HW.out.2.1.2.below hWu⟩))
    have HBu := Lib.hid hWu
    clear hWu hbu HGh
    go_wp2_with fail
    refine HDe.out.mono ?_
    rintro e wv ⟨s2, rfl, hs2, _, hbv⟩
    have hWv := HBu.out.trans (hbv.mono HBu.out.size)
    have HBv := Lib.hid hWv
    clear hWv hbv HDe
    go_wp2_with fail
    have hKd2 : wv.heap[w6.heap.size]? = some (.deferred (some [])) := (HBv.out.block _ (by omega)).trans hKd
    have hT9 : Turn [w6.heap.size] wv (wv.putObj w6.heap.size (.deferred none)) := (Turn.refl _ wv).putObj (.inl (by simp)) _
    refine ret_mark (v := .bool true) rfl hKd2 (fun W' => by simp [results, Try.results6, go_sem]) ?_
    have hk0 := HK.out.1
    have hWw : Below w.heap.size w W := hk0.trans (HW.out.2.2.1.mono hk0.size)
    have hwv := hWw.trans (HBv.out.mono hWw.size)
    exact ⟨rfl, below_turn hwv hT9 (by simp; have := hk0.size; have := H6.out.2.2.2.1.size; omega) hwv.size⟩
  case hstop => rintro c k W hlt hkN h; exact h.elim
end Go.Proofs.Ytgkkafkdgmdihaa
