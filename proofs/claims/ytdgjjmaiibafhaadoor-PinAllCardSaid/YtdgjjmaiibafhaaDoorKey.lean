/-
  Contract of hashes.newKeyed: a key's two states.
  Contract of keyed.of: parts are written behind the key's inner state, its sum behind the outer one.
  Contracts of hashes.HMAC and number.
-/
import Derived.Test.YtdgjjmaiibafhaaDoorOf
import Derived.Test.YtdgjjmaiibafhaaDoorApp2
import Derived.Deep.DeepCutAuto
namespace Go.Proofs.YtdgjjmaiibafhaaDoor
open Go.RowKit

/-- The key, or its hash. -/
def hkey (kind : Int) (key : List UInt8) : List UInt8 := if hblock kind < key.length then (writes kind [key]).sum kind else key
def padTo (B : Nat) (l : List UInt8) : List UInt8 := l ++ zs (B - l.length)
theorem sumOf_len (kind : Int) (hs : List UInt64) (wait : List UInt8) (n : UInt64) (hk : 1 ≤ kind ∧ kind ≤ 5) (h : hs.length = 8) : (sumOf kind hs wait n).length = (hsize kind).toNat := by
  unfold sumOf
  have h8 : (absorb kind hs (wait ++ padB (bl kind) wait.length n)).length = 8 := hsTo_len _ _ _ _ _ h
  generalize absorb kind hs (wait ++ padB (bl kind) wait.length n) = sl at *
  have hw : (wordsOf kind sl).length = if bl kind = 64 then 32 else 64 := by
    unfold wordsOf
    split
    · rw [flat_len _ _ 4 (fun _ => rfl), h8]
    · rw [flat_len _ _ 8 (fun _ => rfl), h8]
  rw [List.length_take, hw]
  have hcase : kind = 1 ∨ kind = 2 ∨ kind = 3 ∨ kind = 4 ∨ kind = 5 := by omega
  rcases hcase with rfl | rfl | rfl | rfl | rfl <;> simp [hsize, bl, hblock]
theorem writes_len (kind : Int) (ps : List (List UInt8)) : (writes kind ps).hs.length = 8 := by
  have key : ∀ (ps : List (List UInt8)) (s : HSt), s.hs.length = 8 → (ps.foldl (HSt.write kind) s).hs.length = 8 := by
    intro ps
    induction ps with
    | nil => intro s h; exact h
    | cons p ps ih => intro s h; exact ih _ (hsTo_len _ _ _ _ _ h)
  exact key ps _ (startW_len kind)
theorem hkey_len (kind : Int) (key : List UInt8) (hk : 1 ≤ kind ∧ kind ≤ 5) : (hkey kind key).length ≤ bl kind := by
  unfold hkey
  split
  · unfold HSt.sum
    rw [sumOf_len kind _ _ _ hk (writes_len kind _)]
    have hcase : kind = 1 ∨ kind = 2 ∨ kind = 3 ∨ kind = 4 ∨ kind = 5 := by omega
    rcases hcase with rfl | rfl | rfl | rfl | rfl <;> simp [hsize, bl, hblock]
  · unfold bl; omega

theorem rd_one {w : World} {g : Nat} {A : Option Addr} {m c : Nat} {l : List UInt8} {t : TypeId} (hb : Blk w g t #[.slice A m c]) (hr : Rd w A m c l) : PartsAt w (some ⟨g, 0, none⟩) 1 1 [l] := by
  refine ⟨rfl, Nat.le_refl _, by unfold maxLen; omega, fun _ => ⟨g, 0, rfl, hb.lt, fun i l' hl => ?_⟩⟩
  cases i with
  | zero => cases hl; exact ⟨A, m, c, hb.cell 0, hr⟩
  | succ i => cases hl

theorem turn_some {w w' : World} {g : Nat} (h : w.grownBy w' (some g)) : Turn [g] w w' :=
  ⟨h.os, h.tape, h.output, h.size, fun k hk hn => h.block k hk (fun e => hn (by cases e; simp))⟩
/-- Two new rows of zeros. -/
theorem two_zeros (w : World) (n : Nat) (hn : n ≤ maxLen) :
    Own ((w.alloc (.cells (madeCells #[.int .u8 0] n) 5)).alloc (.cells (madeCells #[.int .u8 0] n) 5)) w.heap.size (.slice (some ⟨w.heap.size, 0, none⟩) n n) (zs n) ∧
    Own ((w.alloc (.cells (madeCells #[.int .u8 0] n) 5)).alloc (.cells (madeCells #[.int .u8 0] n) 5)) w.heap.size (.slice (some ⟨w.heap.size + 1, 0, none⟩) n n) (zs n) ∧
    Below w.heap.size w ((w.alloc (.cells (madeCells #[.int .u8 0] n) 5)).alloc (.cells (madeCells #[.int .u8 0] n) 5)) := by
  refine ⟨(Own.made w n hn).below ((Below.refl _ _).alloc (Nat.le_refl _) _), ?_, ((Below.refl _ _).alloc (Nat.le_refl _) _).alloc (by simp) _⟩
  have := (Own.made (w.alloc (.cells (madeCells #[.int .u8 0] n) 5)) n hn).mono (base' := w.heap.size) (by simp)
  simpa using this
/-- A key's two states in memory, all of it made behind base. -/
structure KeyAt (base : Nat) (w : World) (d1 d2 : Nat) (wv1 wv2 : Value) (kind : Int) (pd : List UInt8) : Prop where
  one : HashAt w d1 kind (writes kind [pd.map (· ^^^ 54)]).hs (writes kind [pd.map (· ^^^ 54)]).wait (writes kind [pd.map (· ^^^ 54)]).n wv1
  two : HashAt w d2 kind (writes kind [pd.map (· ^^^ 92)]).hs (writes kind [pd.map (· ^^^ 92)]).wait (writes kind [pd.map (· ^^^ 92)]).n wv2
  b1 : base ≤ d1
  b2 : base ≤ d2
  f1 : ∀ g, wv1.ownBlock = some g → base ≤ g
  f2 : ∀ g, wv2.ownBlock = some g → base ≤ g
set_option maxHeartbeats 1000000 in
theorem newKeyed_any (kind : Int) (hk : 1 ≤ kind ∧ kind ≤ 5) (A : Option Addr) (m c : Nat) (key : List UInt8) (w : World) (hr : Rd w A m c key) (hl : key.length ≤ 140737488355000) (hK : KAt w) :
    Calls Tryd.prog 45 #[.int .i64 kind, .slice A m c] w fun e w' => ∃ d1 d2 wv1 wv2, e = .returned (.agg #[.pointer (some ⟨d1, 0, none⟩), .pointer (some ⟨d2, 0, none⟩)]) ∧
      KeyAt w.heap.size w' d1 d2 wv1 wv2 kind (padTo (bl kind) (hkey kind key)) ∧ Below w.heap.size w w' := by
  have hbc := bl_cases kind hk
  have hblk : hblock kind = ((bl kind : Nat) : Int) := by rcases hbc with ⟨h1, h2⟩ | ⟨h1, h2⟩ <;> rw [h1, h2] <;> rfl
  have HBl := Lib.hid (block_any kind)
  have hm := hr.1
  have hk1 : hkey kind key = if bl kind < m then (writes kind [key]).sum kind else key := by
    unfold hkey; rw [hblk, ← hm]; simp
  have hkl := hkey_len kind key hk
  have HH := Lib.hid (And.intro hk (And.intro hr (And.intro hl (And.intro hK (And.intro hk1 hkl)))))
  rw [hblk] at HBl
  have hB64 : 64 ≤ bl kind ∧ bl kind ≤ 128 := by rcases hbc with ⟨h1, h2⟩ | ⟨h1, h2⟩ <;> omega
  generalize bl kind = BL at *
  have HB := Lib.hid (And.intro hblk hB64)
  clear hk hr hl hK hk1 hkl hblk hB64 hbc hm
  go_enter Tryd.func45, Tryd.ntmps45
  go_upto_if 13 with (go_at_call 52; refine (HBl.out _).mono ?_; rintro e w' ⟨rfl, rfl⟩)
  go_cut [1] (fun v wx => ∃ A' m' c', v = .slice A' m' c' ∧ Rd wx A' m' c' (hkey kind key) ∧ Blk wx w.heap.size 77 #[.pointer none, .pointer none] ∧ Below w.heap.size w wx)
  case first =>
    obtain ⟨hk, hr, hl, hK, hk1, hkl⟩ := HH.out
    have hb0 : Below w.heap.size w (w.alloc (.cells #[.pointer none, .pointer none] 77)) := (Below.refl _ _).alloc (Nat.le_refl _) _
    have hk0 : Blk (w.alloc (.cells #[.pointer none, .pointer none] 77)) w.heap.size 77 #[.pointer none, .pointer none] := Blk.new w _ _
    by_cases hgt : BL < m
    · have hgi : (BL : Int) < m := by omega
      rw [if_pos hgt] at hk1
      have hb1 : Below w.heap.size w ((w.alloc (.cells #[.pointer none, .pointer none] 77)).alloc (.cells #[.slice A m c] 22)) := hb0.alloc (by simp) _
      have hp := rd_one (l := key) (Blk.new (w.alloc (.cells #[.pointer none, .pointer none] 77)) 22 #[.slice A m c]) (hr.below hb1)
      have HO := Lib.hid (of_any kind hk _ 1 1 [key] _ hp (by simpa using hl) (hK.below hb1))
      have Hx := Lib.hid (And.intro hk1 (And.intro hb1 (hk0.alloc (.cells #[.slice A m c] 22))))
      simp only [World.size_alloc] at HO
      clear hk hr hl hK hk1 hkl hp hb1 hb0 hk0
      go_wp2_with (go_at_call 53; refine HO.out.mono ?_; rintro e w2 ⟨g, c', rfl, hO, hb⟩)
      go_meet
      case rel =>
        obtain ⟨A', c2, he, hrd, _⟩ := hO.shape
        refine ⟨_, _, _, rfl, ?_, Hx.out.2.2.below (hb.mono (by simp)), Hx.out.2.1.trans (hb.mono (by omega))⟩
        rw [Hx.out.1]
        cases he
        exact hrd
    · have hgi : ¬ ((BL : Int) < m) := by omega
      rw [if_neg hgt] at hk1
      have Hx := Lib.hid (And.intro hk1 (And.intro hb0 (And.intro hk0 (hr.below hb0))))
      clear hk hr hl hK hk1 hkl hb0 hk0
      go_wp2_with fail
      go_meet
      case rel => exact ⟨A, m, c, rfl, by rw [Hx.out.1]; exact Hx.out.2.2.2, Hx.out.2.2.1, Hx.out.2.1⟩
  case rest =>
    obtain ⟨A', m', c', rfl, hrd, hbk, hbw⟩ := hcut
    have Hk := Lib.hid (And.intro hrd (And.intro hbk hbw))
    clear hrd hbk hbw
    generalize wc = wo at *
    have hmk := Tryd.prog_make BL (by have := HB.out; omega)
    go_upto_region 3 with (fail)
    go_cut [5, 6] (fun a b wx => ∃ gi go, a = .slice (some ⟨gi, 0, none⟩) BL BL ∧ b = .slice (some ⟨go, 0, none⟩) BL BL ∧ gi ≠ go ∧ Own wx wo.heap.size (.slice (some ⟨gi, 0, none⟩) BL BL) (zs BL) ∧ Own wx wo.heap.size (.slice (some ⟨go, 0, none⟩) BL BL) (zs BL) ∧ Below wo.heap.size wo wx)
    case first =>
      go_region_held3 (fun _ => True) (trivial) ((go_at_call 52; refine (HBl.out _).mono ?_; rintro e w' ⟨rfl, rfl⟩))
      all_goals
        simp only [Exit.then]
        go_wp2
        go_meet
        obtain ⟨z1, z2, ⟨z3.os, z3.tape, z3.output, z3.size, z3.block⟩⟩ := two_zeros wo BL (by have := HB.out; unfold maxLen; omega)
      · exact ⟨_, _, rfl, rfl, by omega, z1, z2, ⟨z3.os, z3.tape, z3.output, z3.size, z3.block⟩⟩
      · exact ⟨_, _, rfl, rfl, by omega, z1, z2, ⟨z3.os, z3.tape, z3.output, z3.size, z3.block⟩⟩
      · exact ⟨_, _, rfl, rfl, by omega, z2, z1, ⟨z3.os, z3.tape, z3.output, z3.size, z3.block⟩⟩
    case rest =>
      obtain ⟨gi, go, rfl, rfl, hne, hOi, hOo, hbz⟩ := hcut
      generalize wc = wx at *
      have hkl : (hkey kind key).length ≤ BL := HH.out.2.2.2.2.2
      have hrx : Rd wx A' m' c' (hkey kind key) := Hk.out.1.below hbz
      have hlz : (zs BL).length = BL := zs_len BL
      have hpad : splice (zs BL) 0 ((hkey kind key).take BL) = padTo BL (hkey kind key) := by
        unfold splice padTo zs
        rw [List.take_of_length_le hkl]
        simp
      have hsrc : ∀ ad, A' = some ad → ∀ g, wo.heap.size ≤ g → ad.block = g → False := fun ad had g hg he => by
        have := Hk.out.1.lt ad had; omega
      have HR := Lib.hid (And.intro hrx (And.intro hOi (And.intro hOo (And.intro hbz (And.intro hlz (And.intro hpad (And.intro hne hkl)))))))
      clear hrx hOi hOo hbz hlz hpad hne hkl hmk
      go_wp2_with (first
        | (refine wpList_plain rfl fun K hK => op_copy (.tmp 24) _ rfl wo.heap.size gi BL BL 0 BL BL (zs BL) HR.out.2.1 rfl (by rw [zs_len]; omega) A' m' c' (hkey kind key) rfl HR.out.1 (fun w2 h1 h2 => hK _ _ ?_); have ht2 := turn_some h2; have H2 := Lib.hid (And.intro (HR.out.2.2.1.turn ht2 (fun g hg hm => HR.out.2.2.2.2.2.2.1 (by simp [Value.ownBlock] at hg hm; omega))) (And.intro (HR.out.1.turn ht2 (fun ad had hm => hsrc ad had gi (HR.out.2.1.lt (g := gi) rfl).1 (by simpa using hm))) (And.intro h1 ht2))); clear h1 h2 ht2)
        | (refine wpList_plain rfl fun K hK => op_copy (.tmp 27) _ rfl wo.heap.size go BL BL 0 BL BL (zs BL) H2.out.1 rfl (by rw [zs_len]; omega) A' m' c' (hkey kind key) rfl H2.out.2.1 (fun w3 h3 h4 => hK _ _ ?_); have ht3 := turn_some h4; have H3 := Lib.hid (And.intro h3 ht3); clear h3 h4 ht3))
      have hpl : (padTo BL (hkey kind key)).length = BL := by unfold padTo; rw [List.length_append, zs_len]; have := HR.out.2.2.2.2.2.2.2; omega
      have hI3 := H2.out.2.2.1.turn H3.out.2 (fun g hg hm => HR.out.2.2.2.2.2.2.1 (by simp [Value.ownBlock] at hg hm; omega))
      have hO3 := H3.out.1
      rw [HR.out.2.2.2.2.2.1] at hI3 hO3
      have hgi := (HR.out.2.1.lt (g := gi) rfl).1
      have hgo := (HR.out.2.2.1.lt (g := go) rfl).1
      have hb3 : Below wo.heap.size wo w3 := below_turn (below_turn HR.out.2.2.2.1 H2.out.2.2.2 (by simpa using hgi) HR.out.2.2.2.1.size) H3.out.2 (by simpa using hgo) (Nat.le_trans HR.out.2.2.2.1.size H2.out.2.2.2.size)
      have hne := HR.out.2.2.2.2.2.2.1
      generalize hpd : padTo BL (hkey kind key) = pd at *
      have Hpd := Lib.hid (And.intro hpd (And.intro hpl (And.intro hgi (And.intro hgo hne))))
      clear hpd hpl hgi hgo H2 H3
      obtain ⟨pi, hpi⟩ : ∃ pi, pd.map (fun x => x ^^^ 54) = pi := ⟨_, rfl⟩
      obtain ⟨po, hpo⟩ : ∃ po, pd.map (fun x => x ^^^ 92) = po := ⟨_, rfl⟩
      have Hpp := Lib.hid (And.intro hpi hpo)
      go_loopw [32] (fun i wr => ∃ k : Nat, k ≤ BL ∧ i = .int .i64 k ∧ Own wr wo.heap.size (.slice (some ⟨gi, 0, none⟩) BL BL) (mixTo pi pd k) ∧ Own wr wo.heap.size (.slice (some ⟨go, 0, none⟩) BL BL) (mixTo po pd k) ∧ Below wo.heap.size wo wr) (fun i _ => BL - (intOf i).toNat)
      case atStart => exact ⟨0, by omega, rfl, by simpa [mixTo] using hI3, by simpa [mixTo] using hO3, hb3⟩
      case round =>
        obtain ⟨k, hk, rfl, hI, hO, hB⟩ := hrel
        clear hI3 hO3 hb3 hpi hpo
        rcases Nat.lt_or_ge k BL with hlt | hge
        · obtain ⟨x, hx⟩ : ∃ x, pd[k]? = some x := ⟨_, List.getElem?_eq_getElem (by rw [Hpd.out.2.1]; exact hlt)⟩
          have hpix : pi[k]? = some (x ^^^ 54) := by rw [← Hpp.out.1, List.getElem?_map, hx]; rfl
          have hpox : po[k]? = some (x ^^^ 92) := by rw [← Hpp.out.2, List.getElem?_map, hx]; rfl
          have hpil : pi.length = BL := by rw [← Hpp.out.1, List.length_map, Hpd.out.2.1]
          have hpol : po.length = BL := by rw [← Hpp.out.2, List.length_map, Hpd.out.2.1]
          have ci : wr.cell? ⟨gi, k, none⟩ = some (B x) := by
            have := hI.at_.2 k x ((mixTo_get _ _ _ (by omega)).trans hx)
            rwa [Nat.zero_add] at this
          have fi := hI.frozen k
          have hO' : Own (wr.setCell ⟨gi, k, none⟩ (B (x ^^^ 54))) wo.heap.size (.slice (some ⟨go, 0, none⟩) BL BL) (mixTo po pd k) := hO.turn ((Turn.refl [gi] wr).setCell (.inl (by simp)) _) (fun g hg hm => hne (by simp [Value.ownBlock] at hg hm; omega))
          have co : (wr.setCell ⟨gi, k, none⟩ (B (x ^^^ 54))).cell? ⟨go, k, none⟩ = some (B x) := by
            have := hO'.at_.2 k x ((mixTo_get _ _ _ (by omega)).trans hx)
            rwa [Nat.zero_add] at this
          have fo := hO'.frozen k
          have hki : (k : Int) < BL := by omega
          have hk0 : (0 : Int) ≤ k := by omega
          have Hr := Lib.hid (And.intro hI (And.intro hO' (And.intro hB (And.intro hpix (And.intro hpox (And.intro hpil (And.intro hpol hlt)))))))
          clear hI hO hO' hB hpix hpox hpil hpol hx hlt hk
          have hkb : (k : Int) ≤ 128 := by have := HB.out; omega
          go_wp2_with fail
          obtain ⟨hI, hO', hB, hpix, hpox, hpil, hpol, hlt⟩ := Hr.out
          refine ⟨⟨k + 1, by omega, by go_num, ?_, ?_, ?_⟩, by simp [intOf]; omega⟩
          · have h1 := hI.set_ k (x ^^^ 54) hlt
            rw [mixTo_set _ _ _ _ hpix (by rw [Hpd.out.2.1]; exact hlt)] at h1
            exact h1.turn ((Turn.refl [go] _).setCell (.inl (by simp)) _) (fun g hg hm => hne (by simp [Value.ownBlock] at hg hm; omega))
          · have h1 := hO'.set_ k (x ^^^ 92) hlt
            rwa [mixTo_set _ _ _ _ hpox (by rw [Hpd.out.2.1]; exact hlt)] at h1
          · exact (hB.setCell Hpd.out.2.2.1 _).setCell Hpd.out.2.2.2.1 _
        · obtain rfl : k = BL := by omega
          have hq : ¬ ((k : Int) < k) := by omega
          have hpil : pi.length = k := by rw [← Hpp.out.1, List.length_map, Hpd.out.2.1]
          have hpol : po.length = k := by rw [← Hpp.out.2, List.length_map, Hpd.out.2.1]
          have em : ∀ q : List UInt8, q.length = k → mixTo q pd k = q := fun q hq => by
            unfold mixTo
            rw [List.take_of_length_le (by omega), List.drop_eq_nil_of_le (by rw [Hpd.out.2.1]; omega), List.append_nil]
          rw [em pi hpil] at hI
          rw [em po hpol] at hO
          have hk := HH.out.1
          have hKr := (HH.out.2.2.2.1.below (Hk.out.2.2)).below hB
          have HN1 := Lib.hid (new_any kind wr hk hKr)
          have Hr := Lib.hid (And.intro hI (And.intro hO (And.intro hB (And.intro hpil (And.intro hpol hKr)))))
          clear hI hO hB hpil hpol hKr hk em
          go_wp2_with (first
            | (go_at_call 54; refine HN1.out.mono ?_; rintro e wa ⟨d1, rfl, hd1, hA1, hba⟩; have HA1 := Lib.hid (And.intro hd1 (And.intro hA1 hba)); clear hd1 hA1 hba HN1; have HN2 := Lib.hid (new_any kind wa HH.out.1 (Hr.out.2.2.2.2.2.below HA1.out.2.2)))
            | (go_at_call 54; refine HN2.out.mono ?_; rintro e wb ⟨d2, rfl, hd2, hA2, hbb⟩; have HA2 := Lib.hid (And.intro hd2 (And.intro hA2 hbb)); clear hd2 hA2 hbb HN2))
          obtain ⟨hI, hO, hB, hpil, hpol, hKr⟩ := Hr.out
          obtain ⟨hd1, hA1, hba⟩ := HA1.out
          obtain ⟨hd2, hA2, hbb⟩ := HA2.out
          have hz := HB.out
          have hax : Below wb.heap.size wb (wb.alloc (.cells #[.pointer (some ⟨d1, 0, none⟩), .pointer (some ⟨d2, 0, none⟩)] 77)) := (Below.refl _ _).alloc (Nat.le_refl _) _
          have hbx : Blk (wb.alloc (.cells #[.pointer (some ⟨d1, 0, none⟩), .pointer (some ⟨d2, 0, none⟩)] 77)) wb.heap.size 77 #[.pointer (some ⟨d1, 0, none⟩), .pointer (some ⟨d2, 0, none⟩)] := Blk.new wb _ _
          have hl1 : d1 < wa.heap.size := hA1.blk.lt
          have hl2 : d2 < wb.heap.size := hA2.blk.lt
          have hlg : gi < wr.heap.size ∧ go < wr.heap.size := ⟨(hI.lt (g := gi) rfl).2, (hO.lt (g := go) rfl).2⟩
          have hA1x := (hA1.below hbb).below hax
          have hA2x := hA2.below hax
          have hIx := ((hI.below hba).below hbb).below hax
          have hOx := ((hO.below hba).below hbb).below hax
          have hKx := ((hKr.below hba).below hbb).below hax
          have hsa := hba.size
          have hsb := hbb.size
          have hBx : Below wo.heap.size wo (wb.alloc (.cells #[.pointer (some ⟨d1, 0, none⟩), .pointer (some ⟨d2, 0, none⟩)] 77)) := ((hB.trans (hba.mono hB.size)).trans (hbb.mono (Nat.le_trans hB.size hsa))).trans (hax.mono (Nat.le_trans hB.size (Nat.le_trans hsa hsb)))
          have hsx : (wb.alloc (.cells #[.pointer (some ⟨d1, 0, none⟩), .pointer (some ⟨d2, 0, none⟩)] 77)).heap.size = wb.heap.size + 1 := by simp
          revert hbx hA1x hA2x hIx hOx hKx hBx hsx
          generalize wb.alloc (.cells #[.pointer (some ⟨d1, 0, none⟩), .pointer (some ⟨d2, 0, none⟩)] 77) = wX
          intro hbx hA1x hA2x hIx hOx hKx hBx hsx
          have rdOf : ∀ {W : World} {g n : Nat} {l : List UInt8}, Own W wo.heap.size (.slice (some ⟨g, 0, none⟩) n n) l → Rd W (some ⟨g, 0, none⟩) n n l := by
            intro W g n l h
            obtain ⟨A, c, he, hr, _⟩ := h.shape
            cases he; exact hr
          have hBk := ((Hk.out.2.1.below hBx))
          have hkl0 := Hk.out.2.1.lt
          have hBs := hB.size
          have hgi := Hpd.out.2.2.1
          have hgo := Hpd.out.2.2.2.1
          have W1 := write_any d1 kind (startW kind) [] 0 (.slice none 0 0) (some ⟨gi, 0, none⟩) k k pi wX hA1x (rdOf hIx) (by rw [hpil]; simp; omega) hKx (fun ad had => by
            cases had
            refine ⟨?_, by simp [Value.ownBlock]⟩
            show gi ≠ d1
            omega)
          refine W1.mono ?_
          rintro e wc1 ⟨rfl, ⟨wv1, h1, hv1⟩, hT1⟩
          have hT1' : Turn [d1] wX wc1 := by simpa [Value.ownBlock] using hT1
          have hb1 := hbx.turn hT1' (by simp; omega)
          have hA2c := hA2x.turn hT1' (by simp; omega) (by simp [Value.ownBlock])
          have hOc := hOx.turn hT1' (fun g hg hm => by simp [Value.ownBlock] at hg hm; omega)
          have hKc := hKx.turn hT1' (by simp; have := hKr.1; omega)
          have hBkc := hBk.turn hT1' (by simp; omega)
          have hBc : Below wo.heap.size wo wc1 := below_turn hBx hT1' (by simp; have := hB.size; omega) hBx.size
          have hs1 := hT1'.size
          have b1 := hb1.cell 1
          simp only [List.getElem?_toArray, List.getElem?_cons_zero, List.getElem?_cons_succ] at b1
          have W2 := write_any d2 kind (startW kind) [] 0 (.slice none 0 0) (some ⟨go, 0, none⟩) k k po wc1 hA2c (rdOf hOc) (by rw [hpol]; simp; omega) hKc (fun ad had => by
            cases had
            refine ⟨?_, by simp [Value.ownBlock]⟩
            show go ≠ d2
            omega)
          have HW2 := Lib.hid W2
          have HF := Lib.hid (And.intro h1 (And.intro hv1 (And.intro hb1 (And.intro hBkc (And.intro hBc (And.intro hs1 (And.intro hsx (And.intro hd1 (And.intro hd2 (And.intro hl1 (And.intro hl2 (And.intro hsa (And.intro hsb (And.intro hkl0 hB.size))))))))))))))
          clear h1 hv1 hT1 hT1' hb1 hA2c hOc hKc hBkc hBc hs1 hsx W1 W2 hA1x hA2x hIx hOx hKx hBx hBk hbx hI hO hB hd1 hd2 hA1 hA2 hba hbb hl1 hl2 hlg hsa hsb hKr hax hpil hpol rdOf hkl0 hBs hgi hgo
          go_wp2_with (first
            | (go_at_call 55; refine HW2.out.mono ?_; rintro e wc2 ⟨rfl, hw2, hT2⟩; have HT2 : Hid (Turn [d2] wc1 wc2) := Lib.hid (by simpa [Value.ownBlock] using hT2); clear hT2; have Hb2 := Lib.hid (HF.out.2.2.1.turn HT2.out (by have := HF.out; simp; omega)); have Hk2 := Lib.hid (HF.out.2.2.2.1.turn HT2.out (by have := HF.out; simp; omega)))
            | (refine wpList_load_arr rfl 77 _ rfl wb.heap.size 77 _ Hb2.out rfl _ Tryd.underlying77 rfl (by kernel_rfl) ?_)
            | (refine wpList_store_arr rfl 77 _ _ rfl w.heap.size 77 _ [.pointer (some ⟨d1, 0, none⟩), .pointer (some ⟨d2, 0, none⟩)] Hk2.out rfl rfl (by kernel_rfl) rfl rfl ?_; intro wc3 hB3 hT3; have c30 := hB3.cell 0; have c31 := hB3.cell 1; simp only [List.getElem?_toArray, List.getElem?_cons_zero, List.getElem?_cons_succ] at c30 c31; have HB3 := Lib.hid (And.intro hB3 hT3); clear hB3 hT3))
          refine bodyPost_ret (v := .agg #[.pointer (some ⟨d1, 0, none⟩), .pointer (some ⟨d2, 0, none⟩)]) (by simp [results, Tryd.results45, go_sem, c30, c31]) rfl ?_
          obtain ⟨hB3, hT3⟩ := HB3.out
          obtain ⟨wv2, h2, hv2⟩ := hw2
          obtain ⟨h1, hv1, hb1, hBkc, hBc, hs1, hsx, hd1, hd2, hl1, hl2, hsa, hsb, hkl0, hBs⟩ := HF.out
          have hT2 := HT2.out
          have hs2 := hT2.size
          have e1 : writes kind [pi] = ⟨absorb kind (startW kind) ([] ++ pi), rest kind ([] ++ pi), 0 + UInt64.ofNat pi.length⟩ := rfl
          have e2 : writes kind [po] = ⟨absorb kind (startW kind) ([] ++ po), rest kind ([] ++ po), 0 + UInt64.ofNat po.length⟩ := rfl
          have h1' := (h1.turn hT2 (by simp; omega) (fun g hg hm => by have := hv1 g hg; simp at hm; omega)).turn hT3 (by simp; omega) (fun g hg hm => by have := hv1 g hg; simp at hm; omega)
          have h2' := h2.turn hT3 (by simp; omega) (fun g hg hm => by have := hv2 g hg; simp at hm; omega)
          have hBw := Hk.out.2.2
          have hws := hBw.size
          refine ⟨d1, d2, wv1, wv2, rfl, ⟨?_, ?_, by omega, by omega, fun g hg => by have := hv1 g hg; omega, fun g hg => by have := hv2 g hg; omega⟩, ?_⟩
          · rw [show k = k from rfl, Hpd.out.1, Hpp.out.1, e1]; exact h1'
          · rw [Hpd.out.1, Hpp.out.2, e2]; exact h2'
          · exact below_turn (below_turn (hBw.trans (hBc.mono hws)) hT2 (by simp; omega) (by omega)) hT3 (by simp) (by omega)
end Go.Proofs.YtdgjjmaiibafhaaDoor
namespace Go.Proofs.YtdgjjmaiibafhaaDoor
open Go.RowKit

/-- The code of parts by a padded key. -/
def mac (kind : Int) (pd : List UInt8) (ls : List (List UInt8)) : List UInt8 :=
  (writes kind [pd.map (· ^^^ 92), (writes kind (pd.map (· ^^^ 54) :: ls)).sum kind]).sum kind
theorem Blk.two {w : World} {g : Nat} {t : TypeId} {a b : Value} (h : Blk w g t #[a, b]) : w.cell? ⟨g, 0, none⟩ = some a ∧ w.cell? ⟨g, 1, none⟩ = some b := ⟨h.cell 0, h.cell 1⟩
theorem below2 {w w0 w1 w2 : World} {b : Nat} (h : Below b w w0) (k : Below w0.heap.size w1 w2) (hs : b ≤ w0.heap.size := by exact Nat.le_refl _) (e : w1.os = w0.os ∧ w1.tape = w0.tape ∧ w1.output = w0.output ∧ w1.heap = w0.heap := by exact ⟨rfl, rfl, rfl, rfl⟩) : Below b w w2 :=
  ⟨k.os.trans (e.1.trans h.os), k.tape.trans (e.2.1.trans h.tape), k.output.trans (e.2.2.1.trans h.output), by have := k.size; have := h.size; rw [e.2.2.2] at *; omega, fun i hi => by rw [k.block i (by omega), e.2.2.2, h.block i hi]⟩
/-- A sum just made is written into a state made before. -/
theorem outer_any (d : Nat) (kind : Int) (hs : List UInt64) (wait : List UInt8) (n : UInt64) (wv : Value) (g c' : Nat) (l : List UInt8) (wr w2 : World) (h : HashAt wr d kind hs wait n wv) (hb : Below wr.heap.size wr w2)
    (hO : Own w2 wr.heap.size (.slice (some ⟨g, 0, none⟩) l.length c') l) (hlen : wait.length + l.length ≤ 140737488355328) (hK : KAt wr) :
    Calls Tryd.prog 55 #[.pointer (some ⟨d, 0, none⟩), .slice (some ⟨g, 0, none⟩) l.length c'] w2 fun e w' => e = .returned (.tuple #[]) ∧
      (∃ wv', HashAt w' d kind (absorb kind hs (wait ++ l)) (rest kind (wait ++ l)) (n + UInt64.ofNat l.length) wv' ∧ (∀ q, wv'.ownBlock = some q → w2.heap.size ≤ q)) ∧ Turn (d :: wv.ownBlock.toList) w2 w' := by
  obtain ⟨A, c, he, hr, hA⟩ := hO.shape
  cases he
  refine write_any d kind hs wait n wv _ _ _ l w2 (h.below hb) hr hlen (hK.below hb) (fun ad had => ?_)
  have h1 := hA ad had
  have h2 := h.blk.lt
  exact ⟨by omega, fun hq => by have := (h.own.lt hq).2; omega⟩
theorem kat_notin {w : World} {d : Nat} {kind : Int} {hs : List UInt64} {wait : List UInt8} {n : UInt64} {wv : Value} (h : HashAt w d kind hs wait n wv) : 1 ∉ d :: wv.ownBlock.toList := by
  intro hm
  rcases List.mem_cons.1 hm with e | e
  · exact h.ne0 e.symm
  · have := (h.own.lt (by simpa using e)).1
    omega
/-- A state made by a call. -/
structure Made (w w' : World) (d : Nat) (kind : Int) (s : HSt) (wv : Value) : Prop where
  lt : w.heap.size ≤ d
  at_ : HashAt w' d kind s.hs s.wait s.n wv
  fresh : ∀ g, wv.ownBlock = some g → w.heap.size ≤ g
  below : Below w.heap.size w w'
set_option maxHeartbeats 1000000 in
theorem keyOf_any (base : Nat) (d1 d2 : Nat) (wv1 wv2 : Value) (kind : Int) (pd : List UInt8) (A : Option Addr) (m c : Nat) (ls : List (List UInt8)) (w : World) (h : KeyAt base w d1 d2 wv1 wv2 kind pd)
    (hp : PartsAt w A m c ls) (hl : ∀ l ∈ ls, l.length ≤ 140737488355000) (hK : KAt w) :
    Calls Tryd.prog 46 #[.agg #[.pointer (some ⟨d1, 0, none⟩), .pointer (some ⟨d2, 0, none⟩)], .slice A m c] w fun e w' => ∃ g c', e = .returned (.slice (some ⟨g, 0, none⟩) (mac kind pd ls).length c') ∧
      Own w' w.heap.size (.slice (some ⟨g, 0, none⟩) (mac kind pd ls).length c') (mac kind pd ls) ∧ Below w.heap.size w w' := by
  have hk := h.one.kindOk
  obtain ⟨pi, hpi⟩ : ∃ pi, pd.map (· ^^^ 54) = pi := ⟨_, rfl⟩
  obtain ⟨po, hpo⟩ : ∃ po, pd.map (· ^^^ 92) = po := ⟨_, rfl⟩
  obtain ⟨h1, h2, hb1, hb2, hf1, hf2⟩ := h
  have hmac : mac kind pd ls = (writes kind [po, (writes kind (pi :: ls)).sum kind]).sum kind := by rw [← hpi, ← hpo]; rfl
  generalize hmc : mac kind pd ls = mc at *
  rw [hpi] at h1
  rw [hpo] at h2
  have hm := hp.1
  have hmc' := hp.2.1
  have hcm := hp.2.2.1
  unfold maxLen at hcm
  have hax : Below w.heap.size w (w.alloc (.cells #[.pointer (some ⟨d1, 0, none⟩), .pointer (some ⟨d2, 0, none⟩)] 77)) := (Below.refl _ _).alloc (Nat.le_refl _) _
  have hbx : Blk (w.alloc (.cells #[.pointer (some ⟨d1, 0, none⟩), .pointer (some ⟨d2, 0, none⟩)] 77)) w.heap.size 77 #[.pointer (some ⟨d1, 0, none⟩), .pointer (some ⟨d2, 0, none⟩)] := Blk.new w _ _
  obtain ⟨b0, b1⟩ := hbx.two
  have hwt1 := writes_wait kind hk [pi]
  have hwt2 := writes_wait kind hk [po]
  have HC1 : Hid (∀ wq : World, Below w.heap.size w wq → Blk wq w.heap.size 77 #[.pointer (some ⟨d1, 0, none⟩), .pointer (some ⟨d2, 0, none⟩)] →
      Calls Tryd.prog 56 #[.pointer (some ⟨d1, 0, none⟩)] wq fun e w' => ∃ d' wv', e = .returned (.pointer (some ⟨d', 0, none⟩)) ∧ Made wq w' d' kind (writes kind [pi]) wv' ∧ Below w.heap.size w w' ∧
        Blk w' w.heap.size 77 #[.pointer (some ⟨d1, 0, none⟩), .pointer (some ⟨d2, 0, none⟩)] ∧ w'.cell? ⟨w.heap.size, 0, none⟩ = some (.pointer (some ⟨d1, 0, none⟩)) ∧ w'.cell? ⟨w.heap.size, 1, none⟩ = some (.pointer (some ⟨d2, 0, none⟩))) := Lib.hid (fun wq hq hbq => by
    refine (copy_any d1 kind _ _ _ wv1 wq (h1.below hq) (by omega) (hK.below hq)).mono ?_
    rintro e w' ⟨d', wv', rfl, c1, c2, c3, c4⟩
    exact ⟨d', wv', rfl, ⟨c1, c2, c3, c4⟩, hq.trans (c4.mono hq.size), hbq.below c4, (hbq.below c4).two⟩)
  have HC2 : Hid (∀ wq : World, Below w.heap.size w wq → Blk wq w.heap.size 77 #[.pointer (some ⟨d1, 0, none⟩), .pointer (some ⟨d2, 0, none⟩)] →
      Calls Tryd.prog 56 #[.pointer (some ⟨d2, 0, none⟩)] wq fun e w' => ∃ d' wv', e = .returned (.pointer (some ⟨d', 0, none⟩)) ∧ Made wq w' d' kind (writes kind [po]) wv' ∧ Below w.heap.size w w' ∧
        Blk w' w.heap.size 77 #[.pointer (some ⟨d1, 0, none⟩), .pointer (some ⟨d2, 0, none⟩)] ∧ w'.cell? ⟨w.heap.size, 0, none⟩ = some (.pointer (some ⟨d1, 0, none⟩)) ∧ w'.cell? ⟨w.heap.size, 1, none⟩ = some (.pointer (some ⟨d2, 0, none⟩))) := Lib.hid (fun wq hq hbq => by
    refine (copy_any d2 kind _ _ _ wv2 wq (h2.below hq) (by omega) (hK.below hq)).mono ?_
    rintro e w' ⟨d', wv', rfl, c1, c2, c3, c4⟩
    exact ⟨d', wv', rfl, ⟨c1, c2, c3, c4⟩, hq.trans (c4.mono hq.size), hbq.below c4, (hbq.below c4).two⟩)
  have HP := Lib.hid (And.intro hp (And.intro hl (And.intro hK (And.intro hk (And.intro hmac hm)))))
  have HX := Lib.hid (And.intro hax hbx)
  clear h1 h2 hb1 hb2 hf1 hf2 hp hl hK hk hmac hpi hpo hwt1 hwt2 hax hbx hmc hm
  go_enter Tryd.func46, Tryd.ntmps46
  go_upto_region 1 with (fail)
  generalize hw0 : w.alloc (.cells #[.pointer (some ⟨d1, 0, none⟩), .pointer (some ⟨d2, 0, none⟩)] 77) = w0 at *
  have H0 := Lib.hid hw0
  clear hw0
  go_cut [5, 6] (fun a b wx => ∃ da db wva wvb, a = .pointer (some ⟨da, 0, none⟩) ∧ b = .pointer (some ⟨db, 0, none⟩) ∧ da ≠ db ∧
    HashAt wx da kind (writes kind [pi]).hs (writes kind [pi]).wait (writes kind [pi]).n wva ∧ HashAt wx db kind (writes kind [po]).hs (writes kind [po]).wait (writes kind [po]).n wvb ∧
    (∀ g, wva.ownBlock = some g → w.heap.size ≤ g ∧ g ≠ db) ∧ (∀ g, wvb.ownBlock = some g → w.heap.size ≤ g ∧ g ≠ da) ∧ (∀ g, wva.ownBlock = some g → wvb.ownBlock ≠ some g) ∧ w.heap.size ≤ da ∧ w.heap.size ≤ db ∧ Below w.heap.size w wx)
  case first =>

    go_region_held3 (fun wq => wq.cell? ⟨w.heap.size, 0, none⟩ = some (.pointer (some ⟨d1, 0, none⟩)) ∧ wq.cell? ⟨w.heap.size, 1, none⟩ = some (.pointer (some ⟨d2, 0, none⟩))) (first | go_keep | (exact ⟨b0, b1⟩) | (exact ⟨ca0, ca1⟩) | (exact ⟨cb0, cb1⟩)) (first
      | (go_at_call 56; with_reducible refine (HC1.out _ HX.out.1.drew HX.out.2.drew).mono ?_; rintro e wa ⟨da, wva, rfl, hca, hba, hka, ca0, ca1⟩)
      | (go_at_call 56; with_reducible refine (HC2.out _ hba hka).mono ?_; rintro e wb ⟨db, wvb, rfl, hcb, hbb, hkb, cb0, cb1⟩)
      | (go_at_call 56; with_reducible refine (HC2.out _ hba.drew hka.drew).mono ?_; rintro e wb ⟨db, wvb, rfl, hcb, hbb, hkb, cb0, cb1⟩))
    all_goals
      simp only [Exit.then]
      go_wp2
      go_meet
      have l1 := hca.at_.blk.lt
      have l2 := hcb.lt
      have lb := hba.size
      refine ⟨da, db, wva, wvb, rfl, rfl, by omega, hca.at_.below hcb.below, hcb.at_, fun g hg => ?_, fun g hg => ?_, fun g hg hg2 => ?_, ?_, by omega, hbb⟩
      · have h1 := hca.fresh g hg
        have h2 := (hca.at_.own.lt hg).2
        have h3 := HX.out.1.size
        simp only [World.size_drew] at h1
        omega
      · have h1 := hcb.fresh g hg
        omega
      · have h1 := hcb.fresh g hg2
        have h2 := (hca.at_.own.lt hg).2
        omega
      · have h1 := hca.lt
        have h3 := HX.out.1.size
        simp only [World.size_drew] at h1
        omega
  case rest =>
    obtain ⟨da, db, wva, wvb, rfl, rfl, hne, hA, hB, hfa, hfb, hab, hda, hdb, hbw⟩ := hcut
    generalize wc = wo at *
    have Hs := Lib.hid (And.intro hne (And.intro hA (And.intro hB (And.intro hfa (And.intro hfb (And.intro hab (And.intro hda (And.intro hdb hbw))))))))
    clear hne hA hB hfa hfb hab hda hdb hbw HC1 HC2 HX b0 b1
    go_wp2_with fail
    go_loopw [17] (fun i wr => ∃ (k : Nat) (wv : Value), k ≤ m ∧ i = .int .i64 k ∧ HashAt wr da kind (writes kind (pi :: ls.take k)).hs (writes kind (pi :: ls.take k)).wait (writes kind (pi :: ls.take k)).n wv ∧
      (∀ g, wv.ownBlock = some g → w.heap.size ≤ g ∧ g ≠ db ∧ wvb.ownBlock ≠ some g) ∧ HashAt wr db kind (writes kind [po]).hs (writes kind [po]).wait (writes kind [po]).n wvb ∧ Below w.heap.size w wr) (fun i _ => m - (intOf i).toNat)
    case atStart => exact ⟨0, wva, by omega, rfl, Hs.out.2.1, fun g h => ⟨(Hs.out.2.2.2.1 g h).1, (Hs.out.2.2.2.1 g h).2, Hs.out.2.2.2.2.2.1 g h⟩, Hs.out.2.2.1, Hs.out.2.2.2.2.2.2.2.2⟩
    case round =>
      obtain ⟨k, wv, hk, rfl, hA, hwv, hB, hW⟩ := hrel
      have hKr := HP.out.2.2.1.below hW
      have hwt := writes_wait kind HP.out.2.2.2.1 (pi :: ls.take k)
      have hm := HP.out.2.2.2.2.2
      rcases Nat.lt_or_ge k m with hlt | hge
      · obtain ⟨b, off, rfl, hbl, hcell⟩ := HP.out.1.2.2.2 (by omega)
        obtain ⟨l, hl⟩ : ∃ l, ls[k]? = some l := ⟨_, List.getElem?_eq_getElem (by omega)⟩
        obtain ⟨A', m', c', hc, hr⟩ := hcell k l hl
        have hc' := (hW.cell (p := ⟨b, off + k, none⟩) hbl).trans hc
        have hll := HP.out.2.1 l (List.mem_of_getElem? hl)
        have HW := Lib.hid (write_any da kind _ _ _ wv A' m' c' l wr hA (hr.below hW) (by omega) hKr (fun ad had => by
          have h1 := hr.lt ad had
          have h2 := Hs.out.2.2.2.2.2.2.1
          exact ⟨by omega, fun h => by have := (hwv _ h).1; omega⟩))
        have hsc := Lib.hid (show writes kind (pi :: ls.take (k + 1)) = (writes kind (pi :: ls.take k)).write kind l by rw [List.take_add_one, hl]; exact writes_snoc _ (pi :: ls.take k) _)
        have hki : (k : Int) < m := by omega
        have hk0 : (0 : Int) ≤ k := by omega
        have Hr := Lib.hid (And.intro hwv (And.intro hB hW))
        clear hA hwv hB hW hKr hwt hcell hl hc hr hll hlt hk hm
        go_wp2_with (go_at_call 55; refine HW.out.mono ?_; rintro e w2 ⟨rfl, ⟨wv', hA', hwv'⟩, hT'⟩)
        go_roundw
        case rel =>
          obtain ⟨hwv, hB, hW⟩ := Hr.out
          refine ⟨k + 1, wv', by omega, by go_num, by rw [hsc.out]; exact hA', fun g hg => ?_, hB.turn hT' ?_ ?_, below_turn hW hT' ?_ hW.size⟩
          · have h1 := hwv' g hg
            have h2 := hB.blk.lt
            exact ⟨Nat.le_trans hW.size h1, by omega, fun h => by have := (hB.own.lt h).2; omega⟩
          · intro hm
            rcases List.mem_cons.1 hm with h | h
            · exact Hs.out.1 h.symm
            · exact (hwv db (by simpa using h)).2.1 rfl
          · intro g hg hm
            rcases List.mem_cons.1 hm with h | h
            · exact (Hs.out.2.2.2.2.1 g hg).2 h
            · exact (hwv g (by simpa using h)).2.2 hg
          · intro t ht
            rcases List.mem_cons.1 ht with rfl | ht
            · exact Hs.out.2.2.2.2.2.2.1
            · exact (hwv t (by simpa using ht)).1
        case measure => simp [intOf]; omega
      · obtain rfl : k = m := by omega
        have hq : ¬ ((k : Int) < k) := by omega
        rw [List.take_of_length_le (by omega)] at hA hwt
        have HS := Lib.hid (sum_any da kind _ _ _ wv wr hA (by omega) hKr)
        obtain ⟨sm, hsm⟩ : ∃ sm, (writes kind (pi :: ls)).sum kind = sm := ⟨_, rfl⟩
        have hsl : sm.length ≤ 64 := by
          rw [← hsm]
          unfold HSt.sum
          rw [sumOf_len kind _ _ _ HP.out.2.2.2.1 (writes_len kind _)]
          have hcase : kind = 1 ∨ kind = 2 ∨ kind = 3 ∨ kind = 4 ∨ kind = 5 := by have := HP.out.2.2.2.1; omega
          rcases hcase with rfl | rfl | rfl | rfl | rfl <;> simp [hsize]
        have hwt2 := writes_wait kind HP.out.2.2.2.1 [po]
        have hmcs : mc = ((writes kind [po]).write kind sm).sum kind := by rw [HP.out.2.2.2.2.1, hsm]; rfl
        have hsum : sumOf kind (writes kind (pi :: ls)).hs (writes kind (pi :: ls)).wait (writes kind (pi :: ls)).n = sm := hsm
        rw [hsum] at HS
        have Hr := Lib.hid (And.intro hwv (And.intro hB (And.intro hW (And.intro hKr (And.intro hsl (And.intro hwt2 hmcs))))))
        clear hA hwv hB hW hKr hwt hk hge hm hsm hsl hwt2 hmcs hsum
        go_wp2_with (first
          | (go_at_call 57; with_reducible refine HS.out.mono ?_; rintro e w2 ⟨g, c', rfl, hO, hb⟩; have HO := Lib.hid (And.intro hO hb); clear hO hb; have HW := Lib.hid (outer_any db kind _ _ _ wvb g c' sm wr w2 Hr.out.2.1 HO.out.2 HO.out.1 (by have := Hr.out; omega) Hr.out.2.2.2.1))
          | (go_at_call 55; refine HW.out.mono ?_; rintro e w3 ⟨rfl, ⟨wv', hA', hwv'⟩, hT'⟩; have HS2 := Lib.hid (sum_any db kind _ _ _ wv' w3 hA' (by have := rest_len kind ((writes kind [po]).wait ++ sm) HP.out.2.2.2.1; omega) ((Hr.out.2.2.2.1.below HO.out.2).turn hT' (kat_notin Hr.out.2.1))))
          | (go_at_call 57; with_reducible refine HS2.out.mono ?_; rintro e w4 ⟨g4, c4, rfl, hO4, hb4⟩))
        go_ret
        obtain ⟨hwv, hB, hW, hKr, hsl, hwt2, hmcs⟩ := Hr.out
        obtain ⟨hO, hb⟩ := HO.out
        have e : sumOf kind (absorb kind (writes kind [po]).hs ((writes kind [po]).wait ++ sm)) (rest kind ((writes kind [po]).wait ++ sm)) ((writes kind [po]).n + UInt64.ofNat sm.length) = mc := hmcs.symm
        rw [e] at hO4 ⊢
        have s1 := hW.size
        have s2 := hb.size
        have s3 := hT'.size
        refine ⟨g4, c4, rfl, hO4.mono (by omega), ?_⟩
        refine (below_turn (hW.trans (hb.mono s1)) hT' (fun t ht => ?_) (by omega)).trans (hb4.mono (by omega))
        rcases List.mem_cons.1 ht with rfl | ht
        · exact Hs.out.2.2.2.2.2.2.2.1
        · exact (Hs.out.2.2.2.2.1 t (by simpa using ht)).1
end Go.Proofs.YtdgjjmaiibafhaaDoor
namespace Go.Proofs.YtdgjjmaiibafhaaDoor
open Go.RowKit

/-- The code of parts by a key. -/
def hmac (kind : Int) (key : List UInt8) (ls : List (List UInt8)) : List UInt8 := mac kind (padTo (bl kind) (hkey kind key)) ls
theorem hsize_ne (kind : Int) (hk : 1 ≤ kind ∧ kind ≤ 5) : (hsize kind == 0) = false := by
  have hcase : kind = 1 ∨ kind = 2 ∨ kind = 3 ∨ kind = 4 ∨ kind = 5 := by omega
  rcases hcase with rfl | rfl | rfl | rfl | rfl <;> decide
theorem hsize_none (kind : Int) (hk : kind < 1 ∨ 5 < kind) : hsize kind = 0 := by simp [hsize]; omega
theorem PartsAt.below {w w' : World} {A : Option Addr} {m c : Nat} {ls : List (List UInt8)} (h : PartsAt w A m c ls) (hb : Below w.heap.size w w') : PartsAt w' A m c ls := by
  obtain ⟨h1, h2, h3, h4⟩ := h
  refine ⟨h1, h2, h3, fun hm => ?_⟩
  obtain ⟨b, off, rfl, hlt, hc⟩ := h4 hm
  refine ⟨b, off, rfl, Nat.lt_of_lt_of_le hlt hb.size, fun i l hl => ?_⟩
  obtain ⟨A', m', c', hcell, hr⟩ := hc i l hl
  exact ⟨A', m', c', (hb.cell (p := ⟨b, off + i, none⟩) hlt).trans hcell, hr.below hb⟩
theorem hmac_none (kind : Int) (hk : kind < 1 ∨ 5 < kind) (A : Option Addr) (m c : Nat) (A2 : Option Addr) (m2 c2 : Nat) (w : World) :
    Calls Tryd.prog 42 #[.int .i64 kind, .slice A m c, .slice A2 m2 c2] w fun e w' => e = .returned (.slice none 0 0) ∧ w = w' := by
  have hz := hsize_none kind hk
  go_enter Tryd.func42, Tryd.ntmps42
  go_wp2_with (go_at_call 44; refine (size_any kind _).mono ?_; rintro e w' ⟨rfl, rfl⟩; rw [hz])
  go_ret
  exact ⟨rfl, rfl⟩
theorem hmac_any (kind : Int) (hk : 1 ≤ kind ∧ kind ≤ 5) (A : Option Addr) (m c : Nat) (key : List UInt8) (A2 : Option Addr) (m2 c2 : Nat) (ls : List (List UInt8)) (w : World) (hr : Rd w A m c key) (hlk : key.length ≤ 140737488355000)
    (hp : PartsAt w A2 m2 c2 ls) (hl : ∀ l ∈ ls, l.length ≤ 140737488355000) (hK : KAt w) :
    Calls Tryd.prog 42 #[.int .i64 kind, .slice A m c, .slice A2 m2 c2] w fun e w' => ∃ g c', e = .returned (.slice (some ⟨g, 0, none⟩) (hmac kind key ls).length c') ∧
      Own w' w.heap.size (.slice (some ⟨g, 0, none⟩) (hmac kind key ls).length c') (hmac kind key ls) ∧ Below w.heap.size w w' := by
  have HK := Lib.hid (newKeyed_any kind hk A m c key w hr hlk hK)
  have HP := Lib.hid (And.intro hp (And.intro hl hK))
  have hz := hsize_ne kind hk
  unfold hmac
  generalize padTo (bl kind) (hkey kind key) = pd at *
  clear hr hlk hp hl hK hk
  go_enter Tryd.func42, Tryd.ntmps42
  go_wp2_with (first
    | (go_at_call 44; refine (size_any kind _).mono ?_; rintro e w' ⟨rfl, rfl⟩)
    | (go_at_call 45; with_reducible refine HK.out.mono ?_; rintro e w1 ⟨d1, d2, wv1, wv2, rfl, hKA, hb⟩; have HO := Lib.hid (keyOf_any w.heap.size d1 d2 wv1 wv2 kind pd A2 m2 c2 ls w1 hKA (HP.out.1.below hb) HP.out.2.1 (HP.out.2.2.below hb)); have HB := Lib.hid hb; clear hKA hb)
    | (go_at_call 46; with_reducible refine HO.out.mono ?_; rintro e w2 ⟨g, c', rfl, hO, hb2⟩))
  go_ret
  exact ⟨g, c', rfl, hO.mono HB.out.size, HB.out.trans (hb2.mono HB.out.size)⟩

theorem wrapU32 (n : Int) : Value.int .u32 (IntKind.u32.wrap n) = U32 (UInt32.ofNat (IntKind.u32.wrap n).toNat) := by
  symm
  apply U32_eq
  rw [wrap_u32]
  have h1 : 0 ≤ n % 4294967296 := Int.emod_nonneg _ (by decide)
  have h2 : n % 4294967296 < 4294967296 := Int.emod_lt_of_pos _ (by decide)
  rw [UInt32.toNat_ofNat', Nat.mod_eq_of_lt (by omega)]
  omega
/-- A number in four bytes. -/
def num4 (n : Int) : List UInt8 := bytes32 (UInt32.ofNat (n % 4294967296).toNat)
theorem number_any (n : Int) (w : World) : Calls Tryd.prog 47 #[.int .i64 n] w fun e w' => ∃ g c', e = .returned (.slice (some ⟨g, 0, none⟩) 4 c') ∧ Own w' w.heap.size (.slice (some ⟨g, 0, none⟩) 4 c') (num4 n) ∧ Below w.heap.size w w' := by
  have HA := Lib.hid (append32_any (.slice none 0 0) (UInt32.ofNat (n % 4294967296).toNat) [] w w.heap.size (World.ownsRow_nil _ _ _ _) (Nat.le_refl _) (by simp))
  go_enter Tryd.func47, Tryd.ntmps47
  have e := wrapU32 n
  rw [wrap_u32] at e
  go_wp2_with (go_at_call 58; refine HA.out.mono ?_; rintro e2 w' ⟨v', rfl, hO, hT, hne⟩; obtain ⟨g, c', rfl⟩ := hO.form hne)
  go_ret
  exact ⟨g, c', rfl, hO, Turn.below (by simpa [Value.ownBlock] using hT)⟩
end Go.Proofs.YtdgjjmaiibafhaaDoor
