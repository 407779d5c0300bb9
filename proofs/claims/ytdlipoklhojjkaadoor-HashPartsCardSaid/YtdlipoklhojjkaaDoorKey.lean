/-
  Contract of hashes.newKeyed: a key's two states.
-/
import Derived.Test.YtdlipoklhojjkaaDoorOf
import Derived.Test.YtdlipoklhojjkaaDoorApp2
import Derived.Deep.DeepCutAuto
namespace Go.Proofs.YtdlipoklhojjkaaDoor
open Go.RowKit

/-- The key, or its hash. -/
def hkey (kind : Int) (key : List UInt8) : List UInt8 := if hblock kind < key.length then (writes kind [key]).sum kind else key
def padTo (B : Nat) (l : List UInt8) : List UInt8 := l ++ zs (B - l.length)
theorem sumOf_len (kind : Int) (hs : List UInt64) (wait : List UInt8) (n : UInt64) (hk : 1 ≤ kind ∧ kind ≤ 5) (h : hs.length = 8) : (sumOf kind hs wait n).length = (hsize kind).toNat := by
  unfold sumOf
  have h8 : (absorb kind hs (wait ++ padB (bl kind) wait.length n)).length = 8 := hsTo_len _ _ _ _ _ h
  generalize absorb kind hs (wait ++ padB (bl kind) wait.length n) = sl at *
  have hw : (wordsOf kind sl).length = if bl kind = 64 then 32 else 64 := by
    unfold wordsOf
    split
    · rw [flat_len _ _ 4 (fun _ => rfl), h8]
    · rw [flat_len _ _ 8 (fun _ => rfl), h8]
  rw [List.length_take, hw]
  have hcase : kind = 1 ∨ kind = 2 ∨ kind = 3 ∨ kind = 4 ∨ kind = 5 := by omega
  rcases hcase with rfl | rfl | rfl | rfl | rfl <;> simp [hsize, bl, hblock]
theorem writes_len (kind : Int) (ps : List (List UInt8)) : (writes kind ps).hs.length = 8 := by
  have key : ∀ (ps : List (List UInt8)) (s : HSt), s.hs.length = 8 → (ps.foldl (HSt.write kind) s).hs.length = 8 := by
    intro ps
    induction ps with
    | nil => intro s h; exact h
    | cons p ps ih => intro s h; exact ih _ (hsTo_len _ _ _ _ _ h)
  exact key ps _ (startW_len kind)
theorem hkey_len (kind : Int) (key : List UInt8) (hk : 1 ≤ kind ∧ kind ≤ 5) : (hkey kind key).length ≤ bl kind := by
  unfold hkey
  split
  · unfold HSt.sum
    rw [sumOf_len kind _ _ _ hk (writes_len kind _)]
    have hcase : kind = 1 ∨ kind = 2 ∨ kind = 3 ∨ kind = 4 ∨ kind = 5 := by omega
    rcases hcase with rfl | rfl | rfl | rfl | rfl <;> simp [hsize, bl, hblock]
  · unfold bl; omega

theorem rd_one {w : World} {g : Nat} {A : Option Addr} {m c : Nat} {l : List UInt8} {t : TypeId} (hb : Blk w g t #[.slice A m c]) (hr : Rd w A m c l) : PartsAt w (some ⟨g, 0, none⟩) 1 1 [l] := by
  refine ⟨rfl, Nat.le_refl _, by unfold maxLen; omega, fun _ => ⟨g, 0, rfl, hb.lt, fun i l' hl => ?_⟩⟩
  cases i with
  | zero => cases hl; exact ⟨A, m, c, hb.cell 0, hr⟩
  | succ i => cases hl

theorem turn_some {w w' : World} {g : Nat} (h : w.grownBy w' (some g)) : Turn [g] w w' :=
  ⟨h.os, h.tape, h.output, h.size, fun k hk hn => h.block k hk (fun e => hn (by cases e; simp))⟩
/-- Two new rows of zeros. -/
theorem two_zeros (w : World) (n : Nat) (hn : n ≤ maxLen) :
    Own ((w.alloc (.cells (madeCells #[.int .u8 0] n) 5)).alloc (.cells (madeCells #[.int .u8 0] n) 5)) w.heap.size (.slice (some ⟨w.heap.size, 0, none⟩) n n) (zs n) ∧
    Own ((w.alloc (.cells (madeCells #[.int .u8 0] n) 5)).alloc (.cells (madeCells #[.int .u8 0] n) 5)) w.heap.size (.slice (some ⟨w.heap.size + 1, 0, none⟩) n n) (zs n) ∧
    Below w.heap.size w ((w.alloc (.cells (madeCells #[.int .u8 0] n) 5)).alloc (.cells (madeCells #[.int .u8 0] n) 5)) := by
  refine ⟨(Own.made w n hn).below ((Below.refl _ _).alloc (Nat.le_refl _) _), ?_, ((Below.refl _ _).alloc (Nat.le_refl _) _).alloc (by simp) _⟩
  have := (Own.made (w.alloc (.cells (madeCells #[.int .u8 0] n) 5)) n hn).mono (base' := w.heap.size) (by simp)
  simpa using this
/-- A key's two states in memory, all of it made behind base. -/
structure KeyAt (base : Nat) (w : World) (d1 d2 : Nat) (wv1 wv2 : Value) (kind : Int) (pd : List UInt8) : Prop where
  one : HashAt w d1 kind (writes kind [pd.map (· ^^^ 54)]).hs (writes kind [pd.map (· ^^^ 54)]).wait (writes kind [pd.map (· ^^^ 54)]).n wv1
  two : HashAt w d2 kind (writes kind [pd.map (· ^^^ 92)]).hs (writes kind [pd.map (· ^^^ 92)]).wait (writes kind [pd.map (· ^^^ 92)]).n wv2
  b1 : base ≤ d1
  b2 : base ≤ d2
  f1 : ∀ g, wv1.ownBlock = some g → base ≤ g
  f2 : ∀ g, wv2.ownBlock = some g → base ≤ g
set_option maxHeartbeats 1000000 in
theorem newKeyed_any (kind : Int) (hk : 1 ≤ kind ∧ kind ≤ 5) (A : Option Addr) (m c : Nat) (key : List UInt8) (w : World) (hr : Rd w A m c key) (hl : key.length ≤ 70368744177000) (hK : KAt w) :
    Calls Tryd.prog 39 #[.int .i64 kind, .slice A m c] w fun e w' => ∃ d1 d2 wv1 wv2, e = .returned (.agg #[.pointer (some ⟨d1, 0, none⟩), .pointer (some ⟨d2, 0, none⟩)]) ∧
      KeyAt w.heap.size w' d1 d2 wv1 wv2 kind (padTo (bl kind) (hkey kind key)) ∧ Below w.heap.size w w' := by
  have hbc := bl_cases kind hk
  have hblk : hblock kind = ((bl kind : Nat) : Int) := by rcases hbc with ⟨h1, h2⟩ | ⟨h1, h2⟩ <;> rw [h1, h2] <;> rfl
  have HBl := Lib.hid (block_any kind)
  have hm := hr.1
  have hk1 : hkey kind key = if bl kind < m then (writes kind [key]).sum kind else key := by
    unfold hkey; rw [hblk, ← hm]; simp
  have hkl := hkey_len kind key hk
  have HH := Lib.hid (And.intro hk (And.intro hr (And.intro hl (And.intro hK (And.intro hk1 hkl)))))
  rw [hblk] at HBl
  have hB64 : 64 ≤ bl kind ∧ bl kind ≤ 128 := by rcases hbc with ⟨h1, h2⟩ | ⟨h1, h2⟩ <;> omega
  generalize bl kind = BL at *
  have HB := Lib.hid (And.intro hblk hB64)
  clear hk hr hl hK hk1 hkl hblk hB64 hbc hm
  go_enter Tryd.func39, Tryd.ntmps39
  go_upto_if 13 with (go_at_call 17; refine (HBl.out _).mono ?_; rintro e w' ⟨rfl, rfl⟩)
  go_cut [1] (fun v wx => ∃ A' m' c', v = .slice A' m' c' ∧ Rd wx A' m' c' (hkey kind key) ∧ Blk wx w.heap.size 63 #[.pointer none, .pointer none] ∧ Below w.heap.size w wx)
  case first =>
    obtain ⟨hk, hr, hl, hK, hk1, hkl⟩ := HH.out
    have hb0 : Below w.heap.size w (w.alloc (.cells #[.pointer none, .pointer none] 63)) := (Below.refl _ _).alloc (Nat.le_refl _) _
    have hk0 : Blk (w.alloc (.cells #[.pointer none, .pointer none] 63)) w.heap.size 63 #[.pointer none, .pointer none] := Blk.new w _ _
    by_cases hgt : BL < m
    · have hgi : (BL : Int) < m := by omega
      rw [if_pos hgt] at hk1
      have hb1 : Below w.heap.size w ((w.alloc (.cells #[.pointer none, .pointer none] 63)).alloc (.cells #[.slice A m c] 22)) := hb0.alloc (by simp) _
      have hp := rd_one (l := key) (Blk.new (w.alloc (.cells #[.pointer none, .pointer none] 63)) 22 #[.slice A m c]) (hr.below hb1)
      have HO := Lib.hid (of_any kind hk _ 1 1 [key] _ hp (by simpa using hl) (hK.below hb1))
      have Hx := Lib.hid (And.intro hk1 (And.intro hb1 (hk0.alloc (.cells #[.slice A m c] 22))))
      simp only [World.size_alloc] at HO
      clear hk hr hl hK hk1 hkl hp hb1 hb0 hk0
      go_wp2_with (go_at_call 13; refine HO.out.mono ?_; rintro e w2 ⟨g, c', rfl, hO, hb⟩)
      go_meet
      case rel =>
        obtain ⟨A', c2, he, hrd, _⟩ := hO.shape
        refine ⟨_, _, _, rfl, ?_, Hx.out.2.2.below (hb.mono (by simp)), Hx.out.2.1.trans (hb.mono (by omega))⟩
        rw [Hx.out.1]
        cases he
        exact hrd
    · have hgi : ¬ ((BL : Int) < m) := by omega
      rw [if_neg hgt] at hk1
      have Hx := Lib.hid (And.intro hk1 (And.intro hb0 (And.intro hk0 (hr.below hb0))))
      clear hk hr hl hK hk1 hkl hb0 hk0
      go_wp2_with fail
      go_meet
      case rel => exact ⟨A, m, c, rfl, by rw [Hx.out.1]; exact Hx.out.2.2.2, Hx.out.2.2.1, Hx.out.2.1⟩
  case rest =>
    obtain ⟨A', m', c', rfl, hrd, hbk, hbw⟩ := hcut
    have Hk := Lib.hid (And.intro hrd (And.intro hbk hbw))
    clear hrd hbk hbw
    generalize wc = wo at *
    have hmk := Tryd.prog_make BL (by have := HB.out; omega)
    go_upto_region 3 with (fail)
    go_cut [5, 6] (fun a b wx => ∃ gi go, a = .slice (some ⟨gi, 0, none⟩) BL BL ∧ b = .slice (some ⟨go, 0, none⟩) BL BL ∧ gi ≠ go ∧ Own wx wo.heap.size (.slice (some ⟨gi, 0, none⟩) BL BL) (zs BL) ∧ Own wx wo.heap.size (.slice (some ⟨go, 0, none⟩) BL BL) (zs BL) ∧ Below wo.heap.size wo wx)
    case first =>
      go_region_held3 (fun _ => True) (trivial) ((go_at_call 17; refine (HBl.out _).mono ?_; rintro e w' ⟨rfl, rfl⟩))
      all_goals
        simp only [Exit.then]
        go_wp2
        go_meet
        obtain ⟨z1, z2, ⟨z3.os, z3.tape, z3.output, z3.size, z3.block⟩⟩ := two_zeros wo BL (by have := HB.out; unfold maxLen; omega)
      · exact ⟨_, _, rfl, rfl, by omega, z1, z2, ⟨z3.os, z3.tape, z3.output, z3.size, z3.block⟩⟩
      · exact ⟨_, _, rfl, rfl, by omega, z1, z2, ⟨z3.os, z3.tape, z3.output, z3.size, z3.block⟩⟩
      · exact ⟨_, _, rfl, rfl, by omega, z2, z1, ⟨z3.os, z3.tape, z3.output, z3.size, z3.block⟩⟩
    case rest =>
      obtain ⟨gi, go, rfl, rfl, hne, hOi, hOo, hbz⟩ := hcut
      generalize wc = wx at *
      have hkl : (hkey kind key).length ≤ BL := HH.out.2.2.2.2.2
      have hrx : Rd wx A' m' c' (hkey kind key) := Hk.out.1.below hbz
      have hlz : (zs BL).length = BL := zs_len BL
      have hpad : splice (zs BL) 0 ((hkey kind key).take BL) = padTo BL (hkey kind key) := by
        unfold splice padTo zs
        rw [List.take_of_length_le hkl]
        simp
      have hsrc : ∀ ad, A' = some ad → ∀ g, wo.heap.size ≤ g → ad.block = g → False := fun ad had g hg he => by
        have := Hk.out.1.lt ad had; omega
      have HR := Lib.hid (And.intro hrx (And.intro hOi (And.intro hOo (And.intro hbz (And.intro hlz (And.intro hpad (And.intro hne hkl)))))))
      clear hrx hOi hOo hbz hlz hpad hne hkl hmk
      go_wp2_with (first
        | (refine wpList_plain rfl fun K hK => op_copy (.tmp 24) _ rfl wo.heap.size gi BL BL 0 BL BL (zs BL) HR.out.2.1 rfl (by rw [zs_len]; omega) A' m' c' (hkey kind key) rfl HR.out.1 (fun w2 h1 h2 => hK _ _ ?_); have ht2 := turn_some h2; have H2 := Lib.hid (And.intro (HR.out.2.2.1.turn ht2 (fun g hg hm => HR.out.2.2.2.2.2.2.1 (by simp [Value.ownBlock] at hg hm; omega))) (And.intro (HR.out.1.turn ht2 (fun ad had hm => hsrc ad had gi (HR.out.2.1.lt (g := gi) rfl).1 (by simpa using hm))) (And.intro h1 ht2))); clear h1 h2 ht2)
        | (refine wpList_plain rfl fun K hK => op_copy (.tmp 27) _ rfl wo.heap.size go BL BL 0 BL BL (zs BL) H2.out.1 rfl (by rw [zs_len]; omega) A' m' c' (hkey kind key) rfl H2.out.2.1 (fun w3 h3 h4 => hK _ _ ?_); have ht3 := turn_some h4; have H3 := Lib.hid (And.intro h3 ht3); clear h3 h4 ht3))
      have hpl : (padTo BL (hkey kind key)).length = BL := by unfold padTo; rw [List.length_append, zs_len]; have := HR.out.2.2.2.2.2.2.2; omega
      have hI3 := H2.out.2.2.1.turn H3.out.2 (fun g hg hm => HR.out.2.2.2.2.2.2.1 (by simp [Value.ownBlock] at hg hm; omega))
      have hO3 := H3.out.1
      rw [HR.out.2.2.2.2.2.1] at hI3 hO3
      have hgi := (HR.out.2.1.lt (g := gi) rfl).1
      have hgo := (HR.out.2.2.1.lt (g := go) rfl).1
      have hb3 : Below wo.heap.size wo w3 := below_turn (below_turn HR.out.2.2.2.1 H2.out.2.2.2 (by simpa using hgi) HR.out.2.2.2.1.size) H3.out.2 (by simpa using hgo) (Nat.le_trans HR.out.2.2.2.1.size H2.out.2.2.2.size)
      have hne := HR.out.2.2.2.2.2.2.1
      generalize hpd : padTo BL (hkey kind key) = pd at *
      have Hpd := Lib.hid (And.intro hpd (And.intro hpl (And.intro hgi (And.intro hgo hne))))
      clear hpd hpl hgi hgo H2 H3
      obtain ⟨pi, hpi⟩ : ∃ pi, pd.map (fun x => x ^^^ 54) = pi := ⟨_, rfl⟩
      obtain ⟨po, hpo⟩ : ∃ po, pd.map (fun x => x ^^^ 92) = po := ⟨_, rfl⟩
      have Hpp := Lib.hid (And.intro hpi hpo)
      go_loopw [32] (fun i wr => ∃ k : Nat, k ≤ BL ∧ i = .int .i64 k ∧ Own wr wo.heap.size (.slice (some ⟨gi, 0, none⟩) BL BL) (mixTo pi pd k) ∧ Own wr wo.heap.size (.slice (some ⟨go, 0, none⟩) BL BL) (mixTo po pd k) ∧ Below wo.heap.size wo wr) (fun i _ => BL - (intOf i).toNat)
      case atStart => exact ⟨0, by omega, rfl, by simpa [mixTo] using hI3, by simpa [mixTo] using hO3, hb3⟩
      case round =>
        obtain ⟨k, hk, rfl, hI, hO, hB⟩ := hrel
        clear hI3 hO3 hb3 hpi hpo
        rcases Nat.lt_or_ge k BL with hlt | hge
        · obtain ⟨x, hx⟩ : ∃ x, pd[k]? = some x := ⟨_, List.getElem?_eq_getElem (by rw [Hpd.out.2.1]; exact hlt)⟩
          have hpix : pi[k]? = some (x ^^^ 54) := by rw [← Hpp.out.1, List.getElem?_map, hx]; rfl
          have hpox : po[k]? = some (x ^^^ 92) := by rw [← Hpp.out.2, List.getElem?_map, hx]; rfl
          have hpil : pi.length = BL := by rw [← Hpp.out.1, List.length_map, Hpd.out.2.1]
          have hpol : po.length = BL := by rw [← Hpp.out.2, List.length_map, Hpd.out.2.1]
          have ci : wr.cell? ⟨gi, k, none⟩ = some (B x) := by
            have := hI.at_.2 k x ((mixTo_get _ _ _ (by omega)).trans hx)
            rwa [Nat.zero_add] at this
          have fi := hI.frozen k
          have hO' : Own (wr.setCell ⟨gi, k, none⟩ (B (x ^^^ 54))) wo.heap.size (.slice (some ⟨go, 0, none⟩) BL BL) (mixTo po pd k) := hO.turn ((Turn.refl [gi] wr).setCell (.inl (by simp)) _) (fun g hg hm => hne (by simp [Value.ownBlock] at hg hm; omega))
          have co : (wr.setCell ⟨gi, k, none⟩ (B (x ^^^ 54))).cell? ⟨go, k, none⟩ = some (B x) := by
            have := hO'.at_.2 k x ((mixTo_get _ _ _ (by omega)).trans hx)
            rwa [Nat.zero_add] at this
          have fo := hO'.frozen k
          have hki : (k : Int) < BL := by omega
          have hk0 : (0 : Int) ≤ k := by omega
          have Hr := Lib.hid (And.intro hI (And.intro hO' (And.intro hB (And.intro hpix (And.intro hpox (And.intro hpil (And.intro hpol hlt)))))))
          clear hI hO hO' hB hpix hpox hpil hpol hx hlt hk
          have hkb : (k : Int) ≤ 128 := by have := HB.out; omega
          go_wp2_with fail
          obtain ⟨hI, hO', hB, hpix, hpox, hpil, hpol, hlt⟩ := Hr.out
          refine ⟨⟨k + 1, by omega, by go_num, ?_, ?_, ?_⟩, by simp [intOf]; omega⟩
          · have h1 := hI.set_ k (x ^^^ 54) hlt
            rw [mixTo_set _ _ _ _ hpix (by rw [Hpd.out.2.1]; exact hlt)] at h1
            exact h1.turn ((Turn.refl [go] _).setCell (.inl (by simp)) _) (fun g hg hm => hne (by simp [Value.ownBlock] at hg hm; omega))
          · have h1 := hO'.set_ k (x ^^^ 92) hlt
            rwa [mixTo_set _ _ _ _ hpox (by rw [Hpd.out.2.1]; exact hlt)] at h1
          · exact (hB.setCell Hpd.out.2.2.1 _).setCell Hpd.out.2.2.2.1 _
        · obtain rfl : k = BL := by omega
          have hq : ¬ ((k : Int) < k) := by omega
          have hpil : pi.length = k := by rw [← Hpp.out.1, List.length_map, Hpd.out.2.1]
          have hpol : po.length = k := by rw [← Hpp.out.2, List.length_map, Hpd.out.2.1]
          have em : ∀ q : List UInt8, q.length = k → mixTo q pd k = q := fun q hq => by
            unfold mixTo
            rw [List.take_of_length_le (by omega), List.drop_eq_nil_of_le (by rw [Hpd.out.2.1]; omega), List.append_nil]
          rw [em pi hpil] at hI
          rw [em po hpol] at hO
          have hk := HH.out.1
          have hKr := (HH.out.2.2.2.1.below (Hk.out.2.2)).below hB
          have HN1 := Lib.hid (new_any kind wr hk hKr)
          have Hr := Lib.hid (And.intro hI (And.intro hO (And.intro hB (And.intro hpil (And.intro hpol hKr)))))
          clear hI hO hB hpil hpol hKr hk em
          go_wp2_with (first
            | (go_at_call 19; refine HN1.out.mono ?_; rintro e wa ⟨d1, rfl, hd1, hA1, hba⟩; have HA1 := Lib.hid (And.intro hd1 (And.intro hA1 hba)); clear hd1 hA1 hba HN1; have HN2 := Lib.hid (new_any kind wa HH.out.1 (Hr.out.2.2.2.2.2.below HA1.out.2.2)))
            | (go_at_call 19; refine HN2.out.mono ?_; rintro e wb ⟨d2, rfl, hd2, hA2, hbb⟩; have HA2 := Lib.hid (And.intro hd2 (And.intro hA2 hbb)); clear hd2 hA2 hbb HN2))
          obtain ⟨hI, hO, hB, hpil, hpol, hKr⟩ := Hr.out
          obtain ⟨hd1, hA1, hba⟩ := HA1.out
          obtain ⟨hd2, hA2, hbb⟩ := HA2.out
          have hz := HB.out
          have hax : Below wb.heap.size wb (wb.alloc (.cells #[.pointer (some ⟨d1, 0, none⟩), .pointer (some ⟨d2, 0, none⟩)] 63)) := (Below.refl _ _).alloc (Nat.le_refl _) _
          have hbx : Blk (wb.alloc (.cells #[.pointer (some ⟨d1, 0, none⟩), .pointer (some ⟨d2, 0, none⟩)] 63)) wb.heap.size 63 #[.pointer (some ⟨d1, 0, none⟩), .pointer (some ⟨d2, 0, none⟩)] := Blk.new wb _ _
          have hl1 : d1 < wa.heap.size := hA1.blk.lt
          have hl2 : d2 < wb.heap.size := hA2.blk.lt
          have hlg : gi < wr.heap.size ∧ go < wr.heap.size := ⟨(hI.lt (g := gi) rfl).2, (hO.lt (g := go) rfl).2⟩
          have hA1x := (hA1.below hbb).below hax
          have hA2x := hA2.below hax
          have hIx := ((hI.below hba).below hbb).below hax
          have hOx := ((hO.below hba).below hbb).below hax
          have hKx := ((hKr.below hba).below hbb).below hax
          have hsa := hba.size
          have hsb := hbb.size
          have hBx : Below wo.heap.size wo (wb.alloc (.cells #[.pointer (some ⟨d1, 0, none⟩), .pointer (some ⟨d2, 0, none⟩)] 63)) := ((hB.trans (hba.mono hB.size)).trans (hbb.mono (Nat.le_trans hB.size hsa))).trans (hax.mono (Nat.le_trans hB.size (Nat.le_trans hsa hsb)))
          have hsx : (wb.alloc (.cells #[.pointer (some ⟨d1, 0, none⟩), .pointer (some ⟨d2, 0, none⟩)] 63)).heap.size = wb.heap.size + 1 := by simp
          revert hbx hA1x hA2x hIx hOx hKx hBx hsx
          generalize wb.alloc (.cells #[.pointer (some ⟨d1, 0, none⟩), .pointer (some ⟨d2, 0, none⟩)] 63) = wX
          intro hbx hA1x hA2x hIx hOx hKx hBx hsx
          have rdOf : ∀ {W : World} {g n : Nat} {l : List UInt8}, Own W wo.heap.size (.slice (some ⟨g, 0, none⟩) n n) l → Rd W (some ⟨g, 0, none⟩) n n l := by
            intro W g n l h
            obtain ⟨A, c, he, hr, _⟩ := h.shape
            cases he; exact hr
          have hBk := ((Hk.out.2.1.below hBx))
          have hkl0 := Hk.out.2.1.lt
          have hBs := hB.size
          have hgi := Hpd.out.2.2.1
          have hgo := Hpd.out.2.2.2.1
          have W1 := write_any d1 kind (startW kind) [] 0 (.slice none 0 0) (some ⟨gi, 0, none⟩) k k pi wX hA1x (rdOf hIx) (by rw [hpil]; simp; omega) hKx (fun ad had => by
            cases had
            refine ⟨?_, by simp [Value.ownBlock]⟩
            show gi ≠ d1
            omega)
          refine W1.mono ?_
          rintro e wc1 ⟨rfl, ⟨wv1, h1, hv1⟩, hT1⟩
          have hT1' : Turn [d1] wX wc1 := by simpa [Value.ownBlock] using hT1
          have hb1 := hbx.turn hT1' (by simp; omega)
          have hA2c := hA2x.turn hT1' (by simp; omega) (by simp [Value.ownBlock])
          have hOc := hOx.turn hT1' (fun g hg hm => by simp [Value.ownBlock] at hg hm; omega)
          have hKc := hKx.turn hT1' (by simp; have := hKr.1; omega)
          have hBkc := hBk.turn hT1' (by simp; omega)
          have hBc : Below wo.heap.size wo wc1 := below_turn hBx hT1' (by simp; have := hB.size; omega) hBx.size
          have hs1 := hT1'.size
          have b1 := hb1.cell 1
          simp only [List.getElem?_toArray, List.getElem?_cons_zero, List.getElem?_cons_succ] at b1
          have W2 := write_any d2 kind (startW kind) [] 0 (.slice none 0 0) (some ⟨go, 0, none⟩) k k po wc1 hA2c (rdOf hOc) (by rw [hpol]; simp; omega) hKc (fun ad had => by
            cases had
            refine ⟨?_, by simp [Value.ownBlock]⟩
            show go ≠ d2
            omega)
          have HW2 := Lib.hid W2
          have HF := Lib.hid (And.intro h1 (And.intro hv1 (And.intro hb1 (And.intro hBkc (And.intro hBc (And.intro hs1 (And.intro hsx (And.intro hd1 (And.intro hd2 (And.intro hl1 (And.intro hl2 (And.intro hsa (And.intro hsb (And.intro hkl0 hB.size))))))))))))))
          clear h1 hv1 hT1 hT1' hb1 hA2c hOc hKc hBkc hBc hs1 hsx W1 W2 hA1x hA2x hIx hOx hKx hBx hBk hbx hI hO hB hd1 hd2 hA1 hA2 hba hbb hl1 hl2 hlg hsa hsb hKr hax hpil hpol rdOf hkl0 hBs hgi hgo
          go_wp2_with (first
            | (go_at_call 22; refine HW2.out.mono ?_; rintro e wc2 ⟨rfl, hw2, hT2⟩; have HT2 : Hid (Turn [d2] wc1 wc2) := Lib.hid (by simpa [Value.ownBlock] using hT2); clear hT2; have Hb2 := Lib.hid (HF.out.2.2.1.turn HT2.out (by have := HF.out; simp; omega)); have Hk2 := Lib.hid (HF.out.2.2.2.1.turn HT2.out (by have := HF.out; simp; omega)))
            | (refine wpList_load_arr rfl 63 _ rfl wb.heap.size 63 _ Hb2.out rfl _ Tryd.underlying63 rfl (by kernel_rfl) ?_)
            | (refine wpList_store_arr rfl 63 _ _ rfl w.heap.size 63 _ [.pointer (some ⟨d1, 0, none⟩), .pointer (some ⟨d2, 0, none⟩)] Hk2.out rfl rfl (by kernel_rfl) rfl rfl ?_; intro wc3 hB3 hT3; have c30 := hB3.cell 0; have c31 := hB3.cell 1; simp only [List.getElem?_toArray, List.getElem?_cons_zero, List.getElem?_cons_succ] at c30 c31; have HB3 := Lib.hid (And.intro hB3 hT3); clear hB3 hT3))
          refine bodyPost_ret (v := .agg #[.pointer (some ⟨d1, 0, none⟩), .pointer (some ⟨d2, 0, none⟩)]) (by simp [results, Tryd.results39, go_sem, c30, c31]) rfl ?_
          obtain ⟨hB3, hT3⟩ := HB3.out
          obtain ⟨wv2, h2, hv2⟩ := hw2
          obtain ⟨h1, hv1, hb1, hBkc, hBc, hs1, hsx, hd1, hd2, hl1, hl2, hsa, hsb, hkl0, hBs⟩ := HF.out
          have hT2 := HT2.out
          have hs2 := hT2.size
          have e1 : writes kind [pi] = ⟨absorb kind (startW kind) ([] ++ pi), rest kind ([] ++ pi), 0 + UInt64.ofNat pi.length⟩ := rfl
          have e2 : writes kind [po] = ⟨absorb kind (startW kind) ([] ++ po), rest kind ([] ++ po), 0 + UInt64.ofNat po.length⟩ := rfl
          have h1' := (h1.turn hT2 (by simp; omega) (fun g hg hm => by have := hv1 g hg; simp at hm; omega)).turn hT3 (by simp; omega) (fun g hg hm => by have := hv1 g hg; simp at hm; omega)
          have h2' := h2.turn hT3 (by simp; omega) (fun g hg hm => by have := hv2 g hg; simp at hm; omega)
          have hBw := Hk.out.2.2
          have hws := hBw.size
          refine ⟨d1, d2, wv1, wv2, rfl, ⟨?_, ?_, by omega, by omega, fun g hg => by have := hv1 g hg; omega, fun g hg => by have := hv2 g hg; omega⟩, ?_⟩
          · rw [show k = k from rfl, Hpd.out.1, Hpp.out.1, e1]; exact h1'
          · rw [Hpd.out.1, Hpp.out.2, e2]; exact h2'
          · exact below_turn (below_turn (hBw.trans (hBc.mono hws)) hT2 (by simp; omega) (by omega)) hT3 (by simp) (by omega)
end Go.Proofs.YtdlipoklhojjkaaDoor
