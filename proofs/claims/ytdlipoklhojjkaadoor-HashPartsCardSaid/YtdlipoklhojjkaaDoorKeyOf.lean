/-
  Contract of keyed.of: parts are written behind the key's inner state, its sum behind the outer one.
-/
import Derived.Test.YtdlipoklhojjkaaDoorKey
namespace Go.Proofs.YtdlipoklhojjkaaDoor
open Go.RowKit

/-- The code of parts by a padded key. -/
def mac (kind : Int) (pd : List UInt8) (ls : List (List UInt8)) : List UInt8 :=
  (writes kind [pd.map (· ^^^ 92), (writes kind (pd.map (· ^^^ 54) :: ls)).sum kind]).sum kind
theorem Blk.two {w : World} {g : Nat} {t : TypeId} {a b : Value} (h : Blk w g t #[a, b]) : w.cell? ⟨g, 0, none⟩ = some a ∧ w.cell? ⟨g, 1, none⟩ = some b := ⟨h.cell 0, h.cell 1⟩
theorem below2 {w w0 w1 w2 : World} {b : Nat} (h : Below b w w0) (k : Below w0.heap.size w1 w2) (hs : b ≤ w0.heap.size := by exact Nat.le_refl _) (e : w1.os = w0.os ∧ w1.tape = w0.tape ∧ w1.output = w0.output ∧ w1.heap = w0.heap := by exact ⟨rfl, rfl, rfl, rfl⟩) : Below b w w2 :=
  ⟨k.os.trans (e.1.trans h.os), k.tape.trans (e.2.1.trans h.tape), k.output.trans (e.2.2.1.trans h.output), by have := k.size; have := h.size; rw [e.2.2.2] at *; omega, fun i hi => by rw [k.block i (by omega), e.2.2.2, h.block i hi]⟩
/-- A sum just made is written into a state made before. -/
theorem outer_any (d : Nat) (kind : Int) (hs : List UInt64) (wait : List UInt8) (n : UInt64) (wv : Value) (g c' : Nat) (l : List UInt8) (wr w2 : World) (h : HashAt wr d kind hs wait n wv) (hb : Below wr.heap.size wr w2)
    (hO : Own w2 wr.heap.size (.slice (some ⟨g, 0, none⟩) l.length c') l) (hlen : wait.length + l.length ≤ 140737488351232) (hK : KAt wr) :
    Calls Tryd.prog 22 #[.pointer (some ⟨d, 0, none⟩), .slice (some ⟨g, 0, none⟩) l.length c'] w2 fun e w' => e = .returned (.tuple #[]) ∧
      (∃ wv', HashAt w' d kind (absorb kind hs (wait ++ l)) (rest kind (wait ++ l)) (n + UInt64.ofNat l.length) wv' ∧ (∀ q, wv'.ownBlock = some q → w2.heap.size ≤ q)) ∧ Turn (d :: wv.ownBlock.toList) w2 w' := by
  obtain ⟨A, c, he, hr, hA⟩ := hO.shape
  cases he
  refine write_any d kind hs wait n wv _ _ _ l w2 (h.below hb) hr hlen (hK.below hb) (fun ad had => ?_)
  have h1 := hA ad had
  have h2 := h.blk.lt
  exact ⟨by omega, fun hq => by have := (h.own.lt hq).2; omega⟩
theorem kat_notin {w : World} {d : Nat} {kind : Int} {hs : List UInt64} {wait : List UInt8} {n : UInt64} {wv : Value} (h : HashAt w d kind hs wait n wv) : 0 ∉ d :: wv.ownBlock.toList := by
  intro hm
  rcases List.mem_cons.1 hm with e | e
  · exact h.ne0 e.symm
  · have := (h.own.lt (by simpa using e)).1
    omega
/-- A state made by a call. -/
structure Made (w w' : World) (d : Nat) (kind : Int) (s : HSt) (wv : Value) : Prop where
  lt : w.heap.size ≤ d
  at_ : HashAt w' d kind s.hs s.wait s.n wv
  fresh : ∀ g, wv.ownBlock = some g → w.heap.size ≤ g
  below : Below w.heap.size w w'
set_option maxHeartbeats 1000000 in
theorem keyOf_any (base : Nat) (d1 d2 : Nat) (wv1 wv2 : Value) (kind : Int) (pd : List UInt8) (A : Option Addr) (m c : Nat) (ls : List (List UInt8)) (w : World) (h : KeyAt base w d1 d2 wv1 wv2 kind pd)
    (hp : PartsAt w A m c ls) (hl : ∀ l ∈ ls, l.length ≤ 70368744177000) (hK : KAt w) :
    Calls Tryd.prog 40 #[.agg #[.pointer (some ⟨d1, 0, none⟩), .pointer (some ⟨d2, 0, none⟩)], .slice A m c] w fun e w' => ∃ g c', e = .returned (.slice (some ⟨g, 0, none⟩) (mac kind pd ls).length c') ∧
      Own w' w.heap.size (.slice (some ⟨g, 0, none⟩) (mac kind pd ls).length c') (mac kind pd ls) ∧ Below w.heap.size w w' := by
  have hk := h.one.kindOk
  obtain ⟨pi, hpi⟩ : ∃ pi, pd.map (· ^^^ 54) = pi := ⟨_, rfl⟩
  obtain ⟨po, hpo⟩ : ∃ po, pd.map (· ^^^ 92) = po := ⟨_, rfl⟩
  obtain ⟨h1, h2, hb1, hb2, hf1, hf2⟩ := h
  have hmac : mac kind pd ls = (writes kind [po, (writes kind (pi :: ls)).sum kind]).sum kind := by rw [← hpi, ← hpo]; rfl
  generalize hmc : mac kind pd ls = mc at *
  rw [hpi] at h1
  rw [hpo] at h2
  have hm := hp.1
  have hmc' := hp.2.1
  have hcm := hp.2.2.1
  unfold maxLen at hcm
  have hax : Below w.heap.size w (w.alloc (.cells #[.pointer (some ⟨d1, 0, none⟩), .pointer (some ⟨d2, 0, none⟩)] 63)) := (Below.refl _ _).alloc (Nat.le_refl _) _
  have hbx : Blk (w.alloc (.cells #[.pointer (some ⟨d1, 0, none⟩), .pointer (some ⟨d2, 0, none⟩)] 63)) w.heap.size 63 #[.pointer (some ⟨d1, 0, none⟩), .pointer (some ⟨d2, 0, none⟩)] := Blk.new w _ _
  obtain ⟨b0, b1⟩ := hbx.two
  have hwt1 := writes_wait kind hk [pi]
  have hwt2 := writes_wait kind hk [po]
  have HC1 : Hid (∀ wq : World, Below w.heap.size w wq → Blk wq w.heap.size 63 #[.pointer (some ⟨d1, 0, none⟩), .pointer (some ⟨d2, 0, none⟩)] →
      Calls Tryd.prog 21 #[.pointer (some ⟨d1, 0, none⟩)] wq fun e w' => ∃ d' wv', e = .returned (.pointer (some ⟨d', 0, none⟩)) ∧ Made wq w' d' kind (writes kind [pi]) wv' ∧ Below w.heap.size w w' ∧
        Blk w' w.heap.size 63 #[.pointer (some ⟨d1, 0, none⟩), .pointer (some ⟨d2, 0, none⟩)] ∧ w'.cell? ⟨w.heap.size, 0, none⟩ = some (.pointer (some ⟨d1, 0, none⟩)) ∧ w'.cell? ⟨w.heap.size, 1, none⟩ = some (.pointer (some ⟨d2, 0, none⟩))) := Lib.hid (fun wq hq hbq => by
    refine (copy_any d1 kind _ _ _ wv1 wq (h1.below hq) (by omega) (hK.below hq)).mono ?_
    rintro e w' ⟨d', wv', rfl, c1, c2, c3, c4⟩
    exact ⟨d', wv', rfl, ⟨c1, c2, c3, c4⟩, hq.trans (c4.mono hq.size), hbq.below c4, (hbq.below c4).two⟩)
  have HC2 : Hid (∀ wq : World, Below w.heap.size w wq → Blk wq w.heap.size 63 #[.pointer (some ⟨d1, 0, none⟩), .pointer (some ⟨d2, 0, none⟩)] →
      Calls Tryd.prog 21 #[.pointer (some ⟨d2, 0, none⟩)] wq fun e w' => ∃ d' wv', e = .returned (.pointer (some ⟨d', 0, none⟩)) ∧ Made wq w' d' kind (writes kind [po]) wv' ∧ Below w.heap.size w w' ∧
        Blk w' w.heap.size 63 #[.pointer (some ⟨d1, 0, none⟩), .pointer (some ⟨d2, 0, none⟩)] ∧ w'.cell? ⟨w.heap.size, 0, none⟩ = some (.pointer (some ⟨d1, 0, none⟩)) ∧ w'.cell? ⟨w.heap.size, 1, none⟩ = some (.pointer (some ⟨d2, 0, none⟩))) := Lib.hid (fun wq hq hbq => by
    refine (copy_any d2 kind _ _ _ wv2 wq (h2.below hq) (by omega) (hK.below hq)).mono ?_
    rintro e w' ⟨d', wv', rfl, c1, c2, c3, c4⟩
    exact ⟨d', wv', rfl, ⟨c1, c2, c3, c4⟩, hq.trans (c4.mono hq.size), hbq.below c4, (hbq.below c4).two⟩)
  have HP := Lib.hid (And.intro hp (And.intro hl (And.intro hK (And.intro hk (And.intro hmac hm)))))
  have HX := Lib.hid (And.intro hax hbx)
  clear h1 h2 hb1 hb2 hf1 hf2 hp hl hK hk hmac hpi hpo hwt1 hwt2 hax hbx hmc hm
  go_enter Tryd.func40, Tryd.ntmps40
  go_upto_region 1 with (fail)
  generalize hw0 : w.alloc (.cells #[.pointer (some ⟨d1, 0, none⟩), .pointer (some ⟨d2, 0, none⟩)] 63) = w0 at *
  have H0 := Lib.hid hw0
  clear hw0
  go_cut [5, 6] (fun a b wx => ∃ da db wva wvb, a = .pointer (some ⟨da, 0, none⟩) ∧ b = .pointer (some ⟨db, 0, none⟩) ∧ da ≠ db ∧
    HashAt wx da kind (writes kind [pi]).hs (writes kind [pi]).wait (writes kind [pi]).n wva ∧ HashAt wx db kind (writes kind [po]).hs (writes kind [po]).wait (writes kind [po]).n wvb ∧
    (∀ g, wva.ownBlock = some g → w.heap.size ≤ g ∧ g ≠ db) ∧ (∀ g, wvb.ownBlock = some g → w.heap.size ≤ g ∧ g ≠ da) ∧ (∀ g, wva.ownBlock = some g → wvb.ownBlock ≠ some g) ∧ w.heap.size ≤ da ∧ w.heap.size ≤ db ∧ Below w.heap.size w wx)
  case first =>

    go_region_held3 (fun wq => wq.cell? ⟨w.heap.size, 0, none⟩ = some (.pointer (some ⟨d1, 0, none⟩)) ∧ wq.cell? ⟨w.heap.size, 1, none⟩ = some (.pointer (some ⟨d2, 0, none⟩))) (first | go_keep | (exact ⟨b0, b1⟩) | (exact ⟨ca0, ca1⟩) | (exact ⟨cb0, cb1⟩)) (first
      | (go_at_call 21; with_reducible refine (HC1.out _ HX.out.1.drew HX.out.2.drew).mono ?_; rintro e wa ⟨da, wva, rfl, hca, hba, hka, ca0, ca1⟩)
      | (go_at_call 21; with_reducible refine (HC2.out _ hba hka).mono ?_; rintro e wb ⟨db, wvb, rfl, hcb, hbb, hkb, cb0, cb1⟩)
      | (go_at_call 21; with_reducible refine (HC2.out _ hba.drew hka.drew).mono ?_; rintro e wb ⟨db, wvb, rfl, hcb, hbb, hkb, cb0, cb1⟩))
    all_goals
      simp only [Exit.then]
      go_wp2
      go_meet
      have l1 := hca.at_.blk.lt
      have l2 := hcb.lt
      have lb := hba.size
      refine ⟨da, db, wva, wvb, rfl, rfl, by omega, hca.at_.below hcb.below, hcb.at_, fun g hg => ?_, fun g hg => ?_, fun g hg hg2 => ?_, ?_, by omega, hbb⟩
      · have h1 := hca.fresh g hg
        have h2 := (hca.at_.own.lt hg).2
        have h3 := HX.out.1.size
        simp only [World.size_drew] at h1
        omega
      · have h1 := hcb.fresh g hg
        omega
      · have h1 := hcb.fresh g hg2
        have h2 := (hca.at_.own.lt hg).2
        omega
      · have h1 := hca.lt
        have h3 := HX.out.1.size
        simp only [World.size_drew] at h1
        omega
  case rest =>
    obtain ⟨da, db, wva, wvb, rfl, rfl, hne, hA, hB, hfa, hfb, hab, hda, hdb, hbw⟩ := hcut
    generalize wc = wo at *
    have Hs := Lib.hid (And.intro hne (And.intro hA (And.intro hB (And.intro hfa (And.intro hfb (And.intro hab (And.intro hda (And.intro hdb hbw))))))))
    clear hne hA hB hfa hfb hab hda hdb hbw HC1 HC2 HX b0 b1
    go_wp2_with fail
    go_loopw [17] (fun i wr => ∃ (k : Nat) (wv : Value), k ≤ m ∧ i = .int .i64 k ∧ HashAt wr da kind (writes kind (pi :: ls.take k)).hs (writes kind (pi :: ls.take k)).wait (writes kind (pi :: ls.take k)).n wv ∧
      (∀ g, wv.ownBlock = some g → w.heap.size ≤ g ∧ g ≠ db ∧ wvb.ownBlock ≠ some g) ∧ HashAt wr db kind (writes kind [po]).hs (writes kind [po]).wait (writes kind [po]).n wvb ∧ Below w.heap.size w wr) (fun i _ => m - (intOf i).toNat)
    case atStart => exact ⟨0, wva, by omega, rfl, Hs.out.2.1, fun g h => ⟨(Hs.out.2.2.2.1 g h).1, (Hs.out.2.2.2.1 g h).2, Hs.out.2.2.2.2.2.1 g h⟩, Hs.out.2.2.1, Hs.out.2.2.2.2.2.2.2.2⟩
    case round =>
      obtain ⟨k, wv, hk, rfl, hA, hwv, hB, hW⟩ := hrel
      have hKr := HP.out.2.2.1.below hW
      have hwt := writes_wait kind HP.out.2.2.2.1 (pi :: ls.take k)
      have hm := HP.out.2.2.2.2.2
      rcases Nat.lt_or_ge k m with hlt | hge
      · obtain ⟨b, off, rfl, hbl, hcell⟩ := HP.out.1.2.2.2 (by omega)
        obtain ⟨l, hl⟩ : ∃ l, ls[k]? = some l := ⟨_, List.getElem?_eq_getElem (by omega)⟩
        obtain ⟨A', m', c', hc, hr⟩ := hcell k l hl
        have hc' := (hW.cell (p := ⟨b, off + k, none⟩) hbl).trans hc
        have hll := HP.out.2.1 l (List.mem_of_getElem? hl)
        have HW := Lib.hid (write_any da kind _ _ _ wv A' m' c' l wr hA (hr.below hW) (by omega) hKr (fun ad had => by
          have h1 := hr.lt ad had
          have h2 := Hs.out.2.2.2.2.2.2.1
          exact ⟨by omega, fun h => by have := (hwv _ h).1; omega⟩))
        have hsc := Lib.hid (show writes kind (pi :: ls.take (k + 1)) = (writes kind (pi :: ls.take k)).write kind l by rw [List.take_add_one, hl]; exact writes_snoc _ (pi :: ls.take k) _)
        have hki : (k : Int) < m := by omega
        have hk0 : (0 : Int) ≤ k := by omega
        have Hr := Lib.hid (And.intro hwv (And.intro hB hW))
        clear hA hwv hB hW hKr hwt hcell hl hc hr hll hlt hk hm
        go_wp2_with (go_at_call 22; refine HW.out.mono ?_; rintro e w2 ⟨rfl, ⟨wv', hA', hwv'⟩, hT'⟩)
        go_roundw
        case rel =>
          obtain ⟨hwv, hB, hW⟩ := Hr.out
          refine ⟨k + 1, wv', by omega, by go_num, by rw [hsc.out]; exact hA', fun g hg => ?_, hB.turn hT' ?_ ?_, below_turn hW hT' ?_ hW.size⟩
          · have h1 := hwv' g hg
            have h2 := hB.blk.lt
            exact ⟨Nat.le_trans hW.size h1, by omega, fun h => by have := (hB.own.lt h).2; omega⟩
          · intro hm
            rcases List.mem_cons.1 hm with h | h
            · exact Hs.out.1 h.symm
            · exact (hwv db (by simpa using h)).2.1 rfl
          · intro g hg hm
            rcases List.mem_cons.1 hm with h | h
            · exact (Hs.out.2.2.2.2.1 g hg).2 h
            · exact (hwv g (by simpa using h)).2.2 hg
          · intro t ht
            rcases List.mem_cons.1 ht with rfl | ht
            · exact Hs.out.2.2.2.2.2.2.1
            · exact (hwv t (by simpa using ht)).1
        case measure => simp [intOf]; omega
      · obtain rfl : k = m := by omega
        have hq : ¬ ((k : Int) < k) := by omega
        rw [List.take_of_length_le (by omega)] at hA hwt
        have HS := Lib.hid (sum_any da kind _ _ _ wv wr hA (by omega) hKr)
        obtain ⟨sm, hsm⟩ : ∃ sm, (writes kind (pi :: ls)).sum kind = sm := ⟨_, rfl⟩
        have hsl : sm.length ≤ 64 := by
          rw [← hsm]
          unfold HSt.sum
          rw [sumOf_len kind _ _ _ HP.out.2.2.2.1 (writes_len kind _)]
          have hcase : kind = 1 ∨ kind = 2 ∨ kind = 3 ∨ kind = 4 ∨ kind = 5 := by have := HP.out.2.2.2.1; omega
          rcases hcase with rfl | rfl | rfl | rfl | rfl <;> simp [hsize]
        have hwt2 := writes_wait kind HP.out.2.2.2.1 [po]
        have hmcs : mc = ((writes kind [po]).write kind sm).sum kind := by rw [HP.out.2.2.2.2.1, hsm]; rfl
        have hsum : sumOf kind (writes kind (pi :: ls)).hs (writes kind (pi :: ls)).wait (writes kind (pi :: ls)).n = sm := hsm
        rw [hsum] at HS
        have Hr := Lib.hid (And.intro hwv (And.intro hB (And.intro hW (And.intro hKr (And.intro hsl (And.intro hwt2 hmcs))))))
        clear hA hwv hB hW hKr hwt hk hge hm hsm hsl hwt2 hmcs hsum
        go_wp2_with (first
          | (go_at_call 20; with_reducible refine HS.out.mono ?_; rintro e w2 ⟨g, c', rfl, hO, hb⟩; have HO := Lib.hid (And.intro hO hb); clear hO hb; have HW := Lib.hid (outer_any db kind _ _ _ wvb g c' sm wr w2 Hr.out.2.1 HO.out.2 HO.out.1 (by have := Hr.out; omega) Hr.out.2.2.2.1))
          | (go_at_call 22; refine HW.out.mono ?_; rintro e w3 ⟨rfl, ⟨wv', hA', hwv'⟩, hT'⟩; have HS2 := Lib.hid (sum_any db kind _ _ _ wv' w3 hA' (by have := rest_len kind ((writes kind [po]).wait ++ sm) HP.out.2.2.2.1; omega) ((Hr.out.2.2.2.1.below HO.out.2).turn hT' (kat_notin Hr.out.2.1))))
          | (go_at_call 20; with_reducible refine HS2.out.mono ?_; rintro e w4 ⟨g4, c4, rfl, hO4, hb4⟩))
        go_ret
        obtain ⟨hwv, hB, hW, hKr, hsl, hwt2, hmcs⟩ := Hr.out
        obtain ⟨hO, hb⟩ := HO.out
        have e : sumOf kind (absorb kind (writes kind [po]).hs ((writes kind [po]).wait ++ sm)) (rest kind ((writes kind [po]).wait ++ sm)) ((writes kind [po]).n + UInt64.ofNat sm.length) = mc := hmcs.symm
        rw [e] at hO4 ⊢
        have s1 := hW.size
        have s2 := hb.size
        have s3 := hT'.size
        refine ⟨g4, c4, rfl, hO4.mono (by omega), ?_⟩
        refine (below_turn (hW.trans (hb.mono s1)) hT' (fun t ht => ?_) (by omega)).trans (hb4.mono (by omega))
        rcases List.mem_cons.1 ht with rfl | ht
        · exact Hs.out.2.2.2.2.2.2.2.1
        · exact (Hs.out.2.2.2.2.1 t (by simpa using ht)).1
end Go.Proofs.YtdlipoklhojjkaaDoor
