/-
  newKeyed at a key that may be a row of no room.
  PBKDF2 at a PIN that may be a row of no room.
  The reference's HMAC at a key that may be a row of no room.
  The reference's PBKDF2 at a PIN that may be a row of no room.
-/
import Derived.Test.YtdgjjmaiibafhaaDoorKey
import Derived.Test.YtdgjjmaiibafhaaDoorOpenP
import Derived.Test.YtdgjjmaiibafhaaDoorPbA
import Derived.Test.YtdgjjmaiibafhaaDoorRHmac
namespace Go.Proofs.YtdgjjmaiibafhaaDoor
set_option maxRecDepth 100000
open Go.RowKit

theorem RdE.lenE {w : World} {A : Option Addr} {m c : Nat} {l : List UInt8} (h : RdE w A m c l) : m = l.length := by
  rcases h with h | ⟨rfl, _, rfl⟩
  · exact h.1
  · rfl
theorem RdE.rdE {w : World} {A : Option Addr} {m c : Nat} {l : List UInt8} (h : RdE w A m c l) (hm : 0 < m) : Rd w A m c l := by
  rcases h with h | ⟨rfl, _, _⟩
  · exact h
  · omega
theorem RdE.ltE {w : World} {A : Option Addr} {m c : Nat} {l : List UInt8} (h : RdE w A m c l) (hq : m ≠ 0 ∨ c ≠ 0) : ∀ ad, A = some ad → ad.block < w.heap.size := by
  rcases h with h | ⟨h1, h2, _⟩
  · exact h.lt
  · omega
theorem RdE.turnE {w w' : World} {A : Option Addr} {m c : Nat} {l : List UInt8} {S : List Nat} (h : RdE w A m c l) (ht : Turn S w w') (hn : (m ≠ 0 ∨ c ≠ 0) → ∀ ad, A = some ad → ad.block ∉ S) : RdE w' A m c l := by
  by_cases hq : m ≠ 0 ∨ c ≠ 0
  · rcases h with h | ⟨h1, h2, _⟩
    · exact .inl (h.turn ht (hn hq))
    · omega
  · have hl := h.lenE
    exact .inr ⟨by omega, by omega, List.eq_nil_of_length_eq_zero (by omega)⟩
theorem op_copyE {o : Oper} {a : Act} {w : World} {K : Act → World → Prop} {Q : Exit → Act → World → Prop} (d s : Operand)
    (ho : o.op = .call { callee := .builtin .copy, args := #[d, s], argTypes := #[22, 22] })
    (base g n0 c0 off dl dc : Nat) (l : List UInt8) (hown : Own w base (.slice (some ⟨g, 0, none⟩) n0 c0) l) (hd : a.eval d = .slice (some ⟨g, off, none⟩) dl dc) (hoff : off + dl ≤ l.length)
    (A : Option Addr) (m c : Nat) (l2 : List UInt8) (hs : a.eval s = .slice A m c) (hrd : RdE w A m c l2)
    (h : ∀ w', Own w' base (.slice (some ⟨g, 0, none⟩) n0 c0) (splice l off (l2.take dl)) → w.grownBy w' (some g) → K (a.put o.dst (goInt ((min m dl : Nat) : Int))) w') :
    Oper.wp Tryd.prog o a w K Q := by
  obtain ⟨i0, hi, hz0, hz1, hz2⟩ := info_parts Tryd.infoU8
  have hsz : (Tryd.prog.info? 5).map (·.size) = some 1 := by rw [hi]; simp [hz1]
  obtain ⟨e0, e1, e2, e3, cur, hh, hcl, htk⟩ := hown.blk
  have h1 := hrd.lenE
  have hlen : (l2.take dl).length = Nat.min m dl := by rw [List.length_take, ← h1]; exact Nat.min_comm _ _
  have hcap : l.length ≤ cur.length := by omega
  by_cases h0 : Nat.min m dl = 0
  · have hrun := run_copy_none (P := Tryd.prog) w 22 22 o.type 5 (some ⟨g, off, none⟩) A dl dc m c Tryd.underlying22 hsz h0
    unfold Oper.wp
    simp only [execOp, ho, resolve, invoke, builtin, Sem.run_bind, Sem.run_pure, Result.andThen_ok, List.map_toArray, List.map_cons, List.map_nil, hs, hd, hrun]
    have hnil : l2.take dl = [] := List.length_eq_zero_iff.1 (by rw [hlen, h0])
    have hz : min m dl = 0 := h0
    rw [hz] at h
    exact h w (by rw [hnil]; simpa [splice] using hown) ⟨rfl, rfl, rfl, Nat.le_refl _, fun _ _ _ => rfl⟩
  · have hm0 : 0 < m := by rcases Nat.eq_zero_or_pos m with e | e
                           · subst e; exact absurd (Nat.zero_min _) h0
                           · exact e
    obtain ⟨h1', h2, h3, h4⟩ := hrd.rdE hm0
    rcases h4 with ⟨rfl, hc⟩ | ⟨b, so, rfl, h4⟩
    · exact absurd (show Nat.min m dl = 0 by have : m = 0 := by omega
                                             subst this; exact Nat.zero_min _) h0
    · have hrun := run_copy_row (P := Tryd.prog) w 22 22 o.type 5 g off dl dc ⟨b, so, none⟩ m c cur.toArray 5 ((l2.take dl).map B) Tryd.underlying22 hsz hh (by simpa using hlen)
        (fun j v hv => (h4.take dl).adds j v hv) (by rw [List.length_map, hlen]; have : Nat.min m dl ≤ dl := Nat.min_le_right _ _; simp; omega) (map_one _)
      unfold Oper.wp
      simp only [execOp, ho, resolve, invoke, builtin, Sem.run_bind, Sem.run_pure, Result.andThen_ok, List.map_toArray, List.map_cons, List.map_nil, hs, hd, hrun]
      have hgo : goInt (((l2.take dl).map B).length : Nat) = goInt ((min m dl : Nat) : Int) := by rw [List.length_map, hlen]
      rw [hgo]
      have hk : (l2.take dl).length ≤ dl := by rw [hlen]; exact Nat.min_le_right _ _
      refine h _ ?_ ?_
      rotate_left
      · exact ⟨rfl, rfl, rfl, by simp [World.setRow], fun k hk' hne => setRow_other w g k _ (fun e => hne (by rw [e]))⟩
      generalize l2.take dl = z at *
      have hlk : (splice l off z).length = l.length := length_splice _ _ _ (by omega)
      rw [e0, ← hlk]
      refine Own.of_cells (setRow_heap w g _ _ _ _ hh) e3 ?_ e2 (by omega) ?_
      · simp only [List.length_append, List.length_take, List.length_drop, List.length_map]; omega
      · rw [hlk, ← e0]
        apply List.ext_getElem?
        intro i
        have htk' : ∀ i, i < n0 → cur[i]? = (l[i]?).map B := fun i hi => by
          have := congrArg (fun z => z[i]?) htk
          simpa [List.getElem?_take, hi] using this
        unfold splice
        rw [List.getElem?_take, List.getElem?_map, List.append_assoc]
        by_cases hi : i < n0
        · rw [if_pos hi]
          by_cases ho : i < off
          · rw [List.getElem?_append_left (l₁ := cur.take off) (by simp; omega), List.getElem?_append_left (l₁ := l.take off) (by simp; omega), List.getElem?_take, if_pos ho, List.getElem?_take, if_pos ho, htk' i hi]
          · have q1 : (List.take off cur).length = off := by simp; omega
            have q2 : (List.take off l).length = off := by simp; omega
            rw [List.getElem?_append_right (l₁ := cur.take off) (by omega), List.getElem?_append_right (l₁ := l.take off) (by omega), q1, q2]
            by_cases hz : i - off < z.length
            · rw [List.getElem?_append_left (by simpa using hz), List.getElem?_append_left hz, List.getElem?_map]
            · rw [List.getElem?_append_right (by simpa using hz), List.getElem?_append_right (by omega), List.getElem?_drop, List.getElem?_drop, List.length_map]
              have q3 : off + z.length + (i - off - z.length) = i := by omega
              rw [q3, htk' i hi]
        · rw [if_neg hi, List.getElem?_eq_none (by simp; omega)]
          rfl


set_option maxHeartbeats 1000000 in
theorem newKeyedE_any (kind : Int) (hk : 1 ≤ kind ∧ kind ≤ 5) (A : Option Addr) (m c : Nat) (key : List UInt8) (w : World) (hr : RdE w A m c key) (hl : key.length ≤ 140737488355000) (hK : KAt w) :
    Calls Tryd.prog 45 #[.int .i64 kind, .slice A m c] w fun e w' => ∃ d1 d2 wv1 wv2, e = .returned (.agg #[.pointer (some ⟨d1, 0, none⟩), .pointer (some ⟨d2, 0, none⟩)]) ∧
      KeyAt w.heap.size w' d1 d2 wv1 wv2 kind (padTo (bl kind) (hkey kind key)) ∧ Below w.heap.size w w' := by
  have hbc := bl_cases kind hk
  have hblk : hblock kind = ((bl kind : Nat) : Int) := by rcases hbc with ⟨h1, h2⟩ | ⟨h1, h2⟩ <;> rw [h1, h2] <;> rfl
  have HBl := Lib.hid (block_any kind)
  have hm := hr.lenE
  have hk1 : hkey kind key = if bl kind < m then (writes kind [key]).sum kind else key := by
    unfold hkey; rw [hblk, ← hm]; simp
  have hkl := hkey_len kind key hk
  have HH := Lib.hid (And.intro hk (And.intro hr (And.intro hl (And.intro hK (And.intro hk1 hkl)))))
  rw [hblk] at HBl
  have hB64 : 64 ≤ bl kind ∧ bl kind ≤ 128 := by rcases hbc with ⟨h1, h2⟩ | ⟨h1, h2⟩ <;> omega
  generalize bl kind = BL at *
  have HB := Lib.hid (And.intro hblk hB64)
  clear hk hr hl hK hk1 hkl hblk hB64 hbc hm
  go_enter Tryd.func45, Tryd.ntmps45
  go_upto_if 13 with (go_at_call 52; refine (HBl.out _).mono ?_; rintro e w' ⟨rfl, rfl⟩)
  go_cut [1] (fun v wx => ∃ A' m' c', v = .slice A' m' c' ∧ RdE wx A' m' c' (hkey kind key) ∧ Blk wx w.heap.size 77 #[.pointer none, .pointer none] ∧ Below w.heap.size w wx)
  case first =>
    obtain ⟨hk, hr, hl, hK, hk1, hkl⟩ := HH.out
    have hb0 : Below w.heap.size w (w.alloc (.cells #[.pointer none, .pointer none] 77)) := (Below.refl _ _).alloc (Nat.le_refl _) _
    have hk0 : Blk (w.alloc (.cells #[.pointer none, .pointer none] 77)) w.heap.size 77 #[.pointer none, .pointer none] := Blk.new w _ _
    by_cases hgt : BL < m
    · have hgi : (BL : Int) < m := by omega
      rw [if_pos hgt] at hk1
      have hb1 : Below w.heap.size w ((w.alloc (.cells #[.pointer none, .pointer none] 77)).alloc (.cells #[.slice A m c] 22)) := hb0.alloc (by simp) _
      have hp := rd_one (l := key) (Blk.new (w.alloc (.cells #[.pointer none, .pointer none] 77)) 22 #[.slice A m c]) ((hr.rdE (by omega)).below hb1)
      have HO := Lib.hid (of_any kind hk _ 1 1 [key] _ hp (by simpa using hl) (hK.below hb1))
      have Hx := Lib.hid (And.intro hk1 (And.intro hb1 (hk0.alloc (.cells #[.slice A m c] 22))))
      simp only [World.size_alloc] at HO
      clear hk hr hl hK hk1 hkl hp hb1 hb0 hk0
      go_wp2_with (go_at_call 53; refine HO.out.mono ?_; rintro e w2 ⟨g, c', rfl, hO, hb⟩)
      go_meet
      case rel =>
        obtain ⟨A', c2, he, hrd, _⟩ := hO.shape
        refine ⟨_, _, _, rfl, ?_, Hx.out.2.2.below (hb.mono (by simp)), Hx.out.2.1.trans (hb.mono (by omega))⟩
        rw [Hx.out.1]
        cases he
        exact .inl hrd
    · have hgi : ¬ ((BL : Int) < m) := by omega
      rw [if_neg hgt] at hk1
      have Hx := Lib.hid (And.intro hk1 (And.intro hb0 (And.intro hk0 (hr.below hb0))))
      clear hk hr hl hK hk1 hkl hb0 hk0
      go_wp2_with fail
      go_meet
      case rel => exact ⟨A, m, c, rfl, by rw [Hx.out.1]; exact Hx.out.2.2.2, Hx.out.2.2.1, Hx.out.2.1⟩
  case rest =>
    obtain ⟨A', m', c', rfl, hrd, hbk, hbw⟩ := hcut
    have Hk := Lib.hid (And.intro hrd (And.intro hbk hbw))
    clear hrd hbk hbw
    generalize wc = wo at *
    have hmk := Tryd.prog_make BL (by have := HB.out; omega)
    go_upto_region 3 with (fail)
    go_cut [5, 6] (fun a b wx => ∃ gi go, a = .slice (some ⟨gi, 0, none⟩) BL BL ∧ b = .slice (some ⟨go, 0, none⟩) BL BL ∧ gi ≠ go ∧ Own wx wo.heap.size (.slice (some ⟨gi, 0, none⟩) BL BL) (zs BL) ∧ Own wx wo.heap.size (.slice (some ⟨go, 0, none⟩) BL BL) (zs BL) ∧ Below wo.heap.size wo wx)
    case first =>
      go_region_held3 (fun _ => True) (trivial) ((go_at_call 52; refine (HBl.out _).mono ?_; rintro e w' ⟨rfl, rfl⟩))
      all_goals
        simp only [Exit.then]
        go_wp2
        go_meet
        obtain ⟨z1, z2, ⟨z3.os, z3.tape, z3.output, z3.size, z3.block⟩⟩ := two_zeros wo BL (by have := HB.out; unfold maxLen; omega)
      · exact ⟨_, _, rfl, rfl, by omega, z1, z2, ⟨z3.os, z3.tape, z3.output, z3.size, z3.block⟩⟩
      · exact ⟨_, _, rfl, rfl, by omega, z1, z2, ⟨z3.os, z3.tape, z3.output, z3.size, z3.block⟩⟩
      · exact ⟨_, _, rfl, rfl, by omega, z2, z1, ⟨z3.os, z3.tape, z3.output, z3.size, z3.block⟩⟩
    case rest =>
      obtain ⟨gi, go, rfl, rfl, hne, hOi, hOo, hbz⟩ := hcut
      generalize wc = wx at *
      have hkl : (hkey kind key).length ≤ BL := HH.out.2.2.2.2.2
      have hrx : RdE wx A' m' c' (hkey kind key) := Hk.out.1.below hbz
      have hlz : (zs BL).length = BL := zs_len BL
      have hpad : splice (zs BL) 0 ((hkey kind key).take BL) = padTo BL (hkey kind key) := by
        unfold splice padTo zs
        rw [List.take_of_length_le hkl]
        simp
      have hsrc : (m' ≠ 0 ∨ c' ≠ 0) → ∀ ad, A' = some ad → ∀ g, wo.heap.size ≤ g → ad.block = g → False := fun hq ad had g hg he => by
        have := Hk.out.1.ltE hq ad had; omega
      have HR := Lib.hid (And.intro hrx (And.intro hOi (And.intro hOo (And.intro hbz (And.intro hlz (And.intro hpad (And.intro hne hkl)))))))
      clear hrx hOi hOo hbz hlz hpad hne hkl hmk
      go_wp2_with (first
        | (refine wpList_plain rfl fun K hK => op_copyE (.tmp 24) _ rfl wo.heap.size gi BL BL 0 BL BL (zs BL) HR.out.2.1 rfl (by rw [zs_len]; omega) A' m' c' (hkey kind key) rfl HR.out.1 (fun w2 h1 h2 => hK _ _ ?_); have ht2 := turn_some h2; have H2 := Lib.hid (And.intro (HR.out.2.2.1.turn ht2 (fun g hg hm => HR.out.2.2.2.2.2.2.1 (by simp [Value.ownBlock] at hg hm; omega))) (And.intro (HR.out.1.turnE ht2 (fun hq ad had hm => hsrc hq ad had gi (HR.out.2.1.lt (g := gi) rfl).1 (by simpa using hm))) (And.intro h1 ht2))); clear h1 h2 ht2)
        | (refine wpList_plain rfl fun K hK => op_copyE (.tmp 27) _ rfl wo.heap.size go BL BL 0 BL BL (zs BL) H2.out.1 rfl (by rw [zs_len]; omega) A' m' c' (hkey kind key) rfl H2.out.2.1 (fun w3 h3 h4 => hK _ _ ?_); have ht3 := turn_some h4; have H3 := Lib.hid (And.intro h3 ht3); clear h3 h4 ht3))
      have hpl : (padTo BL (hkey kind key)).length = BL := by unfold padTo; rw [List.length_append, zs_len]; have := HR.out.2.2.2.2.2.2.2; omega
      have hI3 := H2.out.2.2.1.turn H3.out.2 (fun g hg hm => HR.out.2.2.2.2.2.2.1 (by simp [Value.ownBlock] at hg hm; omega))
      have hO3 := H3.out.1
      rw [HR.out.2.2.2.2.2.1] at hI3 hO3
      have hgi := (HR.out.2.1.lt (g := gi) rfl).1
      have hgo := (HR.out.2.2.1.lt (g := go) rfl).1
      have hb3 : Below wo.heap.size wo w3 := below_turn (below_turn HR.out.2.2.2.1 H2.out.2.2.2 (by simpa using hgi) HR.out.2.2.2.1.size) H3.out.2 (by simpa using hgo) (Nat.le_trans HR.out.2.2.2.1.size H2.out.2.2.2.size)
      have hne := HR.out.2.2.2.2.2.2.1
      generalize hpd : padTo BL (hkey kind key) = pd at *
      have Hpd := Lib.hid (And.intro hpd (And.intro hpl (And.intro hgi (And.intro hgo hne))))
      clear hpd hpl hgi hgo H2 H3
      obtain ⟨pi, hpi⟩ : ∃ pi, pd.map (fun x => x ^^^ 54) = pi := ⟨_, rfl⟩
      obtain ⟨po, hpo⟩ : ∃ po, pd.map (fun x => x ^^^ 92) = po := ⟨_, rfl⟩
      have Hpp := Lib.hid (And.intro hpi hpo)
      go_loopw [32] (fun i wr => ∃ k : Nat, k ≤ BL ∧ i = .int .i64 k ∧ Own wr wo.heap.size (.slice (some ⟨gi, 0, none⟩) BL BL) (mixTo pi pd k) ∧ Own wr wo.heap.size (.slice (some ⟨go, 0, none⟩) BL BL) (mixTo po pd k) ∧ Below wo.heap.size wo wr) (fun i _ => BL - (intOf i).toNat)
      case atStart => exact ⟨0, by omega, rfl, by simpa [mixTo] using hI3, by simpa [mixTo] using hO3, hb3⟩
      case round =>
        obtain ⟨k, hk, rfl, hI, hO, hB⟩ := hrel
        clear hI3 hO3 hb3 hpi hpo
        rcases Nat.lt_or_ge k BL with hlt | hge
        · obtain ⟨x, hx⟩ : ∃ x, pd[k]? = some x := ⟨_, List.getElem?_eq_getElem (by rw [Hpd.out.2.1]; exact hlt)⟩
          have hpix : pi[k]? = some (x ^^^ 54) := by rw [← Hpp.out.1, List.getElem?_map, hx]; rfl
          have hpox : po[k]? = some (x ^^^ 92) := by rw [← Hpp.out.2, List.getElem?_map, hx]; rfl
          have hpil : pi.length = BL := by rw [← Hpp.out.1, List.length_map, Hpd.out.2.1]
          have hpol : po.length = BL := by rw [← Hpp.out.2, List.length_map, Hpd.out.2.1]
          have ci : wr.cell? ⟨gi, k, none⟩ = some (B x) := by
            have := hI.at_.2 k x ((mixTo_get _ _ _ (by omega)).trans hx)
            rwa [Nat.zero_add] at this
          have fi := hI.frozen k
          have hO' : Own (wr.setCell ⟨gi, k, none⟩ (B (x ^^^ 54))) wo.heap.size (.slice (some ⟨go, 0, none⟩) BL BL) (mixTo po pd k) := hO.turn ((Turn.refl [gi] wr).setCell (.inl (by simp)) _) (fun g hg hm => hne (by simp [Value.ownBlock] at hg hm; omega))
          have co : (wr.setCell ⟨gi, k, none⟩ (B (x ^^^ 54))).cell? ⟨go, k, none⟩ = some (B x) := by
            have := hO'.at_.2 k x ((mixTo_get _ _ _ (by omega)).trans hx)
            rwa [Nat.zero_add] at this
          have fo := hO'.frozen k
          have hki : (k : Int) < BL := by omega
          have hk0 : (0 : Int) ≤ k := by omega
          have Hr := Lib.hid (And.intro hI (And.intro hO' (And.intro hB (And.intro hpix (And.intro hpox (And.intro hpil (And.intro hpol hlt)))))))
          clear hI hO hO' hB hpix hpox hpil hpol hx hlt hk
          have hkb : (k : Int) ≤ 128 := by have := HB.out; omega
          go_wp2_with fail
          obtain ⟨hI, hO', hB, hpix, hpox, hpil, hpol, hlt⟩ := Hr.out
          refine ⟨⟨k + 1, by omega, by go_num, ?_, ?_, ?_⟩, by simp [intOf]; omega⟩
          · have h1 := hI.set_ k (x ^^^ 54) hlt
            rw [mixTo_set _ _ _ _ hpix (by rw [Hpd.out.2.1]; exact hlt)] at h1
            exact h1.turn ((Turn.refl [go] _).setCell (.inl (by simp)) _) (fun g hg hm => hne (by simp [Value.ownBlock] at hg hm; omega))
          · have h1 := hO'.set_ k (x ^^^ 92) hlt
            rwa [mixTo_set _ _ _ _ hpox (by rw [Hpd.out.2.1]; exact hlt)] at h1
          · exact (hB.setCell Hpd.out.2.2.1 _).setCell Hpd.out.2.2.2.1 _
        · obtain rfl : k = BL := by omega
          have hq : ¬ ((k : Int) < k) := by omega
          have hpil : pi.length = k := by rw [← Hpp.out.1, List.length_map, Hpd.out.2.1]
          have hpol : po.length = k := by rw [← Hpp.out.2, List.length_map, Hpd.out.2.1]
          have em : ∀ q : List UInt8, q.length = k → mixTo q pd k = q := fun q hq => by
            unfold mixTo
            rw [List.take_of_length_le (by omega), List.drop_eq_nil_of_le (by rw [Hpd.out.2.1]; omega), List.append_nil]
          rw [em pi hpil] at hI
          rw [em po hpol] at hO
          have hk := HH.out.1
          have hKr := (HH.out.2.2.2.1.below (Hk.out.2.2)).below hB
          have HN1 := Lib.hid (new_any kind wr hk hKr)
          have Hr := Lib.hid (And.intro hI (And.intro hO (And.intro hB (And.intro hpil (And.intro hpol hKr)))))
          clear hI hO hB hpil hpol hKr hk em
          go_wp2_with (first
            | (go_at_call 54; refine HN1.out.mono ?_; rintro e wa ⟨d1, rfl, hd1, hA1, hba⟩; have HA1 := Lib.hid (And.intro hd1 (And.intro hA1 hba)); clear hd1 hA1 hba HN1; have HN2 := Lib.hid (new_any kind wa HH.out.1 (Hr.out.2.2.2.2.2.below HA1.out.2.2)))
            | (go_at_call 54; refine HN2.out.mono ?_; rintro e wb ⟨d2, rfl, hd2, hA2, hbb⟩; have HA2 := Lib.hid (And.intro hd2 (And.intro hA2 hbb)); clear hd2 hA2 hbb HN2))
          obtain ⟨hI, hO, hB, hpil, hpol, hKr⟩ := Hr.out
          obtain ⟨hd1, hA1, hba⟩ := HA1.out
          obtain ⟨hd2, hA2, hbb⟩ := HA2.out
          have hz := HB.out
          have hax : Below wb.heap.size wb (wb.alloc (.cells #[.pointer (some ⟨d1, 0, none⟩), .pointer (some ⟨d2, 0, none⟩)] 77)) := (Below.refl _ _).alloc (Nat.le_refl _) _
          have hbx : Blk (wb.alloc (.cells #[.pointer (some ⟨d1, 0, none⟩), .pointer (some ⟨d2, 0, none⟩)] 77)) wb.heap.size 77 #[.pointer (some ⟨d1, 0, none⟩), .pointer (some ⟨d2, 0, none⟩)] := Blk.new wb _ _
          have hl1 : d1 < wa.heap.size := hA1.blk.lt
          have hl2 : d2 < wb.heap.size := hA2.blk.lt
          have hlg : gi < wr.heap.size ∧ go < wr.heap.size := ⟨(hI.lt (g := gi) rfl).2, (hO.lt (g := go) rfl).2⟩
          have hA1x := (hA1.below hbb).below hax
          have hA2x := hA2.below hax
          have hIx := ((hI.below hba).below hbb).below hax
          have hOx := ((hO.below hba).below hbb).below hax
          have hKx := ((hKr.below hba).below hbb).below hax
          have hsa := hba.size
          have hsb := hbb.size
          have hBx : Below wo.heap.size wo (wb.alloc (.cells #[.pointer (some ⟨d1, 0, none⟩), .pointer (some ⟨d2, 0, none⟩)] 77)) := ((hB.trans (hba.mono hB.size)).trans (hbb.mono (Nat.le_trans hB.size hsa))).trans (hax.mono (Nat.le_trans hB.size (Nat.le_trans hsa hsb)))
          have hsx : (wb.alloc (.cells #[.pointer (some ⟨d1, 0, none⟩), .pointer (some ⟨d2, 0, none⟩)] 77)).heap.size = wb.heap.size + 1 := by simp
          revert hbx hA1x hA2x hIx hOx hKx hBx hsx
          generalize wb.alloc (.cells #[.pointer (some ⟨d1, 0, none⟩), .pointer (some ⟨d2, 0, none⟩)] 77) = wX
          intro hbx hA1x hA2x hIx hOx hKx hBx hsx
          have rdOf : ∀ {W : World} {g n : Nat} {l : List UInt8}, Own W wo.heap.size (.slice (some ⟨g, 0, none⟩) n n) l → Rd W (some ⟨g, 0, none⟩) n n l := by
            intro W g n l h
            obtain ⟨A, c, he, hr, _⟩ := h.shape
            cases he; exact hr
          have hBk := ((Hk.out.2.1.below hBx))
          have hkl0 := Hk.out.2.1.lt
          have hBs := hB.size
          have hgi := Hpd.out.2.2.1
          have hgo := Hpd.out.2.2.2.1
          have W1 := write_any d1 kind (startW kind) [] 0 (.slice none 0 0) (some ⟨gi, 0, none⟩) k k pi wX hA1x (rdOf hIx) (by rw [hpil]; simp; omega) hKx (fun ad had => by
            cases had
            refine ⟨?_, by simp [Value.ownBlock]⟩
            show gi ≠ d1
            omega)
          refine W1.mono ?_
          rintro e wc1 ⟨rfl, ⟨wv1, h1, hv1⟩, hT1⟩
          have hT1' : Turn [d1] wX wc1 := by simpa [Value.ownBlock] using hT1
          have hb1 := hbx.turn hT1' (by simp; omega)
          have hA2c := hA2x.turn hT1' (by simp; omega) (by simp [Value.ownBlock])
          have hOc := hOx.turn hT1' (fun g hg hm => by simp [Value.ownBlock] at hg hm; omega)
          have hKc := hKx.turn hT1' (by simp; have := hKr.1; omega)
          have hBkc := hBk.turn hT1' (by simp; omega)
          have hBc : Below wo.heap.size wo wc1 := below_turn hBx hT1' (by simp; have := hB.size; omega) hBx.size
          have hs1 := hT1'.size
          have b1 := hb1.cell 1
          simp only [List.getElem?_toArray, List.getElem?_cons_zero, List.getElem?_cons_succ] at b1
          have W2 := write_any d2 kind (startW kind) [] 0 (.slice none 0 0) (some ⟨go, 0, none⟩) k k po wc1 hA2c (rdOf hOc) (by rw [hpol]; simp; omega) hKc (fun ad had => by
            cases had
            refine ⟨?_, by simp [Value.ownBlock]⟩
            show go ≠ d2
            omega)
          have HW2 := Lib.hid W2
          have HF := Lib.hid (And.intro h1 (And.intro hv1 (And.intro hb1 (And.intro hBkc (And.intro hBc (And.intro hs1 (And.intro hsx (And.intro hd1 (And.intro hd2 (And.intro hl1 (And.intro hl2 (And.intro hsa (And.intro hsb (And.intro hkl0 hB.size))))))))))))))
          clear h1 hv1 hT1 hT1' hb1 hA2c hOc hKc hBkc hBc hs1 hsx W1 W2 hA1x hA2x hIx hOx hKx hBx hBk hbx hI hO hB hd1 hd2 hA1 hA2 hba hbb hl1 hl2 hlg hsa hsb hKr hax hpil hpol rdOf hkl0 hBs hgi hgo
          go_wp2_with (first
            | (go_at_call 55; refine HW2.out.mono ?_; rintro e wc2 ⟨rfl, hw2, hT2⟩; have HT2 : Hid (Turn [d2] wc1 wc2) := Lib.hid (by simpa [Value.ownBlock] using hT2); clear hT2; have Hb2 := Lib.hid (HF.out.2.2.1.turn HT2.out (by have := HF.out; simp; omega)); have Hk2 := Lib.hid (HF.out.2.2.2.1.turn HT2.out (by have := HF.out; simp; omega)))
            | (refine wpList_load_arr rfl 77 _ rfl wb.heap.size 77 _ Hb2.out rfl _ Tryd.underlying77 rfl (by kernel_rfl) ?_)
            | (refine wpList_store_arr rfl 77 _ _ rfl w.heap.size 77 _ [.pointer (some ⟨d1, 0, none⟩), .pointer (some ⟨d2, 0, none⟩)] Hk2.out rfl rfl (by kernel_rfl) rfl rfl ?_; intro wc3 hB3 hT3; have c30 := hB3.cell 0; have c31 := hB3.cell 1; simp only [List.getElem?_toArray, List.getElem?_cons_zero, List.getElem?_cons_succ] at c30 c31; have HB3 := Lib.hid (And.intro hB3 hT3); clear hB3 hT3))
          refine bodyPost_ret (v := .agg #[.pointer (some ⟨d1, 0, none⟩), .pointer (some ⟨d2, 0, none⟩)]) (by simp [results, Tryd.results45, go_sem, c30, c31]) rfl ?_
          obtain ⟨hB3, hT3⟩ := HB3.out
          obtain ⟨wv2, h2, hv2⟩ := hw2
          obtain ⟨h1, hv1, hb1, hBkc, hBc, hs1, hsx, hd1, hd2, hl1, hl2, hsa, hsb, hkl0, hBs⟩ := HF.out
          have hT2 := HT2.out
          have hs2 := hT2.size
          have e1 : writes kind [pi] = ⟨absorb kind (startW kind) ([] ++ pi), rest kind ([] ++ pi), 0 + UInt64.ofNat pi.length⟩ := rfl
          have e2 : writes kind [po] = ⟨absorb kind (startW kind) ([] ++ po), rest kind ([] ++ po), 0 + UInt64.ofNat po.length⟩ := rfl
          have h1' := (h1.turn hT2 (by simp; omega) (fun g hg hm => by have := hv1 g hg; simp at hm; omega)).turn hT3 (by simp; omega) (fun g hg hm => by have := hv1 g hg; simp at hm; omega)
          have h2' := h2.turn hT3 (by simp; omega) (fun g hg hm => by have := hv2 g hg; simp at hm; omega)
          have hBw := Hk.out.2.2
          have hws := hBw.size
          refine ⟨d1, d2, wv1, wv2, rfl, ⟨?_, ?_, by omega, by omega, fun g hg => by have := hv1 g hg; omega, fun g hg => by have := hv2 g hg; omega⟩, ?_⟩
          · rw [show k = k from rfl, Hpd.out.1, Hpp.out.1, e1]; exact h1'
          · rw [Hpd.out.1, Hpp.out.2, e2]; exact h2'
          · exact below_turn (below_turn (hBw.trans (hBc.mono hws)) hT2 (by simp; omega) (by omega)) hT3 (by simp) (by omega)
end Go.Proofs.YtdgjjmaiibafhaaDoor
namespace Go.Proofs.YtdgjjmaiibafhaaDoor
set_option maxRecDepth 100000
open Go.RowKit

set_option maxHeartbeats 4000000 in
theorem pb_in1E (kind : Int) (hk : 1 ≤ kind ∧ kind ≤ 5) (R n : Nat) (hR : 1 ≤ R ∧ R ≤ 65536) (hn : 1 ≤ n ∧ n ≤ 65536) (hq : R * ((n + (hsize kind).toNat - 1) / (hsize kind).toNat) ≤ 65536) (A : Option Addr) (m c : Nat) (pin : List UInt8) (A2 : Option Addr) (m2 c2 : Nat) (salt : List UInt8)
    (w : World) (hr : RdE w A m c pin) (hp : pin.length ≤ 1000) (hr2 : Rd w A2 m2 c2 salt) (hs : salt.length ≤ 1000) (hK : KAt w) :
    Calls Tryd.prog 38 #[.int .i64 kind, .slice A m c, .slice A2 m2 c2, .int .i64 R, .int .i64 n] w (RdRes w (pkey kind pin salt R n)) := by
  have hsz := hsize_pos kind hk
  have hsz2 := hsize_le kind hk
  have hpos : hsize kind = (((hsize kind).toNat : Nat) : Int) := by rw [Int.toNat_of_nonneg (by omega)]
  have HSz := Lib.hid (size_any kind)
  rw [hpos] at HSz
  have HLt := Lib.hid (fun b hb r => tS_len kind hk pin b hp hb r)
  have HLu := Lib.hid (fun b hb r => uS_len kind hk pin b hp hb r)
  have HLp := Lib.hid (fun k => pbk_len kind hk pin salt hp hs R k)
  generalize (hsize kind).toNat = SZ at *
  obtain ⟨q, hq1, hq2, hq3⟩ := pb_tests R n SZ ⟨hsz, hsz2⟩ hR hn hq
  have HH := Lib.hid (And.intro hk (And.intro hr (And.intro hp (And.intro hr2 (And.intro hs (And.intro hK hpos))))))
  have hz : (((SZ : Nat) : Int) == 0) = false := by rw [beq_eq_false_iff_ne]; omega
  have h1 : decide ((R : Int) < 1) = false := decide_eq_false (by omega)
  have h2 : decide ((65536 : Int) < R) = false := decide_eq_false (by omega)
  have h3 : decide ((n : Int) < 1) = false := decide_eq_false (by omega)
  have h4 : decide ((65536 : Int) < n) = false := decide_eq_false (by omega)
  have h5 : decide ((65536 : Int) < (R : Int) * q) = false := decide_eq_false hq3
  clear hq3
  have hni : (n : Int) ≤ 65536 := by omega
  have hn1 : (1 : Int) ≤ n := by omega
  have hRi : (R : Int) ≤ 65536 := by omega
  have hR1 : (1 : Int) ≤ R := by omega
  have hSi : (SZ : Int) ≤ 64 := by omega
  have hS2 : (20 : Int) ≤ SZ := by omega
  clear hk hr hp hr2 hs hK hpos hq hR hn
  go_enter Tryd.func38, Tryd.ntmps38
  go_wp2_with (first
    | (go_at_call 44; refine (HSz.out _).mono ?_; rintro e w' ⟨rfl, rfl⟩)
    | (go_at_call 45; refine (newKeyedE_any kind HH.out.1 A m c pin w HH.out.2.1 (by have := HH.out.2.2.1; omega) HH.out.2.2.2.2.2.1).mono ?_; rintro e w1 ⟨d1, d2, wv1, wv2, rfl, hKA, hb1⟩; have HKA := Lib.hid (And.intro hKA hb1); clear hKA hb1))
  have hb0 : Blk (w1.alloc (.cells #[.pointer (some ⟨d1, 0, none⟩), .pointer (some ⟨d2, 0, none⟩)] 77)) w1.heap.size 77 #[.pointer (some ⟨d1, 0, none⟩), .pointer (some ⟨d2, 0, none⟩)] := Blk.new _ _ _
  have hal : Below w1.heap.size w1 (w1.alloc (.cells #[.pointer (some ⟨d1, 0, none⟩), .pointer (some ⟨d2, 0, none⟩)] 77)) := (Below.refl _ _).alloc (Nat.le_refl _) _
  have hbw := HKA.out.2.trans (hal.mono HKA.out.2.size)
  have H0 := Lib.hid (And.intro (HKA.out.1.below hal) (And.intro hbw (And.intro (HH.out.2.2.2.2.2.1.below hbw) (HH.out.2.2.2.1.below hbw))))
  generalize (w1.alloc (.cells #[.pointer (some ⟨d1, 0, none⟩), .pointer (some ⟨d2, 0, none⟩)] 77)) = w0 at *
  have hg0 := hb0.lt
  generalize w1.heap.size = g0 at *
  have Hb0 := Lib.hid hb0
  clear hal hbw hb0 HKA
  go_loopw [13, 14] (fun v i wr => ∃ (k : Nat) (A : Option Addr) (m c : Nat), k ≤ n ∧ i = .int .i64 ((k + 1 : Nat) : Int) ∧ v = .slice A m c ∧ Own wr w0.heap.size (.slice A m c) (pbk kind pin salt R k) ∧ Below w0.heap.size w0 wr) (fun _ i _ => (n + 1 - intOf i).toNat)
  case atStart => exact ⟨0, _, _, _, by omega, rfl, rfl, Own.nil _ _, Below.refl _ _⟩
  case round =>
    obtain ⟨k, A1, m1, c1, hk, rfl, rfl, hO, hB⟩ := hrel
    have hm1 := hO.len
    rw [HLp.out k] at hm1
    have hm20 : k * 20 ≤ m1 := by rw [hm1]; exact Nat.mul_le_mul_left k hsz
    have hki : (k : Int) ≤ 65536 := by omega
    have hk0 : (0 : Int) ≤ k := by omega
    rcases Nat.lt_or_ge m1 n with hlt | hge
    · have hli : (m1 : Int) < n := by omega
      have hkn : k < n := by omega
      have H1 := Lib.hid (And.intro hO (And.intro hB (And.intro hm1 hkn)))
      have bb := (Hb0.out.keep (hB.block g0 hg0)).two
      have Hbb := Lib.hid bb
      have hg0r : g0 < wr.heap.size := Nat.lt_of_lt_of_le hg0 hB.size
      clear hO hB hm1 hm20 hk hlt hkn bb
      generalize wr = wx at *
      go_wp2_with fail
      refine region_old (by kernel_rfl) (fun wd hHeld hSz2 => ?_)
      have HSz2 := Lib.hid hSz2
      clear hSz2
      refine takeL (i := 0) (v := ?_) rfl (by kernel_rfl) (by kernel_rfl) (by kernel_rfl) (fun _ _ _ h => h) (Or.inl ⟨by rfl, ?_⟩) hHeld ?_
      rotate_left
      focus (intro wq hSw; have b0 := (Below.cell hSw (p := ⟨g0, 0, none⟩) hg0r).trans Hbb.out.1; have b1 := (Below.cell hSw (p := ⟨g0, 1, none⟩) hg0r).trans Hbb.out.2; clear hSw; go_simp; try with_reducible rfl)
      try simp only [Act.put, List.setIfInBounds_toArray, List.set_cons_zero, List.set_cons_succ]
      refine takeL (i := 1) (v := ?_) rfl (by kernel_rfl) (by kernel_rfl) (by kernel_rfl) (fun _ _ _ h => h) (Or.inl ⟨by rfl, ?_⟩) hHeld ?_
      rotate_left
      focus (intro wq hSw; clear hSw; go_simp; try with_reducible rfl)
      try simp only [Act.put, List.setIfInBounds_toArray, List.set_cons_zero, List.set_cons_succ]
      refine takeL (i := 2) (v := ?_) rfl (by kernel_rfl) (by kernel_rfl) (by kernel_rfl) (fun _ _ _ h => h) (Or.inl ⟨by rfl, ?_⟩) hHeld ?_
      rotate_left
      focus (intro wq hSw; clear hSw; go_simp; try with_reducible rfl)
      try simp only [Act.put, List.setIfInBounds_toArray, List.set_cons_zero, List.set_cons_succ]
      refine wpAnyH_ready (rs := [3]) (by kernel_rfl) (by simp) ?_
      refine consL rfl (fun K hK => ?_) AllReadyH.nil
      go_simp
      refine (number_any ((k : Int) + 1) _).mono ?_
      rintro e w3 ⟨g3, c3, rfl, hO3, hb3⟩
      have h3 : Old wx w3 := hHeld.trans hb3
      clear hb3
      refine hK.out _ _ h3 (fun hHeld => ?_)
      clear hK K
      try simp only [Act.put, List.setIfInBounds_toArray, List.set_cons_zero, List.set_cons_succ]
      refine wpAnyH_old (w1 := w3) h3 (fun hHeld => ?_) (Old.refl _)
      refine wpAnyH_ready (rs := [4]) (by kernel_rfl) (by simp) ?_
      refine consL rfl (fun K hK => ?_) AllReadyH.nil
      go_simp
      refine hK.out _ _ (by repeat (first | exact hHeld | exact Old.refl _ | assumption | refine Old.drew ?_ | refine Old.drewN ?_ _ | refine Old.alloc ?_ _)) (fun hHeld => ?_)
      clear hK K
      try simp only [Act.put, List.setIfInBounds_toArray, List.set_cons_zero, List.set_cons_succ]
      refine wpAnyH_ready (rs := [5]) (by kernel_rfl) (by simp) ?_
      refine consL rfl (fun K hK => ?_) AllReadyH.nil
      go_simp
      have hbl := Blk.new w3 22 #[.slice A2 m2 c2, .slice (some ⟨g3, 0, none⟩) 4 c3]
      have hpp := rd_two hbl (((H0.out.2.2.2.below H1.out.2.1).below h3).below hHeld) (hO3.rd.below hHeld)
      refine (keyOf_res w.heap.size d1 d2 wv1 wv2 kind HH.out.1 pin _ 2 2 [salt, num4 ((k : Int) + 1)] _ (((H0.out.1.below H1.out.2.1).below h3).below hHeld) (by have := HH.out.2.2.1; omega) hpp (by have := HH.out.2.2.2.2.1; simp [num4_len]; omega) (((H0.out.2.2.1.below H1.out.2.1).below h3).below hHeld)).mono ?_
      rintro e w5 ⟨A5, n5, c5, rfl, hO5, hb5⟩
      rw [show ([salt, num4 ((k : Int) + 1)] : List (List UInt8)).flatten = salt ++ num4 ((k : Int) + 1) by simp] at hO5
      have h35 : Old w3 w5 := hHeld.trans hb5
      have h5 : Old wx w5 := h3.trans h35
      clear hbl hpp hb5
      refine hK.out _ _ h35 (fun hHeld => ?_)
      clear hK K
      try simp only [Act.put, List.setIfInBounds_toArray, List.set_cons_zero, List.set_cons_succ]
      refine takeL (i := 6) (v := ?_) rfl (by kernel_rfl) (by kernel_rfl) (by kernel_rfl) (fun _ _ _ h => h) (Or.inl ⟨by rfl, ?_⟩) hHeld ?_
      rotate_left
      focus (intro wq hSw; clear hSw; go_simp; try with_reducible rfl)
      try simp only [Act.put, List.setIfInBounds_toArray, List.set_cons_zero, List.set_cons_succ]
      refine wpAnyH_done (by kernel_rfl) ?_ _
      refine NoPanic.normal ?_
      simp only [Exit.then]
      obtain ⟨b, hb⟩ : ∃ b, salt ++ num4 ((k : Int) + 1) = b := ⟨_, rfl⟩
      have hbl : b.length ≤ 2000 := by rw [← hb, List.length_append, num4_len]; have := HH.out.2.2.2.2.1; omega
      rw [hb] at hO5
      have hlt0 := HLt.out b hbl
      have hlu0 := HLu.out b hbl
      obtain ⟨g5, c5', he5, hc5, _⟩ := hO5.form_n SZ (hlu0 0) (by omega)
      cases he5
      have H5 := Lib.hid (And.intro hO5 (And.intro h5 (And.intro hb hbl)))
      have HLt2 := Lib.hid hlt0
      have HLu2 := Lib.hid hlu0
      clear hO5 h5 hb hbl hlt0 hlu0 hHeld HSz2 hO3
      go_wp2_with fail
      refine (clone_own _ _ w5 _ H5.out.1 (by rw [show (rhmac kind pin b).length = SZ from HLu2.out 0]; omega)).mono ?_
      rintro e w6 ⟨v6, rfl, hO6, hb6⟩
      obtain ⟨g6, c6, rfl, hc6, _⟩ := hO6.form_n SZ (HLu2.out 0) (by omega)
      have hO6' : Own w6 w5.heap.size (.slice (some ⟨g6, 0, none⟩) SZ c6) (tS kind pin b 0) := hO6
      have H6 := Lib.hid (And.intro hO6' (And.intro (Old.trans H5.out.2.1 hb6) (H5.out.1.rd.below hb6)))
      have hg6 := (hO6.lt (g := g6) rfl)
      clear hO6 hb6 hO6'
      go_wp2_with fail
      have bb := (Hb0.out.keep (H1.out.2.1.block g0 hg0)).keep (H6.out.2.1.block g0 hg0r)
      have Hb6 := Lib.hid bb
      clear bb
      go_loopw [15, 68] (fun u i wy => ∃ (r : Nat) (A : Option Addr) (m c : Nat), r + 1 ≤ R ∧ i = .int .i64 r ∧ u = .slice A m c ∧ Rd wy A m c (uS kind pin b r) ∧ (∀ ad, A = some ad → ad.block ≠ g6) ∧ Own wy w5.heap.size (.slice (some ⟨g6, 0, none⟩) SZ c6) (tS kind pin b r) ∧ Turn [g6] w6 wy) (fun _ i _ => R - (intOf i).toNat)
      case atStart => exact ⟨0, _, _, _, by omega, rfl, rfl, H6.out.2.2, fun ad had => by cases had; have := (H5.out.1.lt (g := g5) rfl).2; have := hg6.1; simp only; omega, H6.out.1, Turn.refl _ _⟩
      case round =>
        obtain ⟨r, A7, m7, c7, hr7, rfl, rfl, hR7, hA7, hO7, hT7⟩ := hrel
        rcases Nat.lt_or_ge (r + 1) R with hlt | hge
        · have hri : (r : Int) < (R : Int) - 1 := by omega
          have hr0 : (0 : Int) ≤ r := by omega
          have hs5 := Below.size H5.out.2.1
          have hs6 := Below.size H6.out.2.1
          have h67 : g0 ∉ [g6] := by simp; omega
          have bb := (Hb6.out.keep (hT7.block g0 (by omega) h67))
          have b2 := bb.two
          have b20 := b2.1
          have b21 := b2.2
          have H7 := Lib.hid (And.intro hR7 (And.intro hA7 (And.intro hO7 (And.intro hT7 (And.intro bb hlt)))))
          clear hR7 hA7 hO7 hT7 bb b2 hlt hr7 h67 hs5 hs6
          go_wp2_with fail
          have hbl7 := Blk.new wr 22 #[.slice A7 m7 c7]
          have hal7 : Below wr.heap.size wr (wr.alloc (.cells #[.slice A7 m7 c7] 22)) := (Below.refl _ _).alloc (Nat.le_refl _) _
          have hT70 : Turn [g6] wx wr := (Turn.of_below [g6] H6.out.2.1).trans H7.out.2.2.2.1 (by simp)
          have hsz7 : wx.heap.size ≤ wr.heap.size := hT70.size
          have hbw7 : Below wx.heap.size wx wr := below_turn H6.out.2.1 H7.out.2.2.2.1 (by have := H5.out.2.1.size; simp; omega) (H6.out.2.1).size
          have hka := ((H0.out.1.below H1.out.2.1).below hbw7).below hal7
          have hkk := ((H0.out.2.2.1.below H1.out.2.1).below hbw7).below hal7
          have hpp := rd_one hbl7 (H7.out.1.below hal7)
          refine (keyOf_res w.heap.size d1 d2 wv1 wv2 kind HH.out.1 pin _ 1 1 [uS kind pin b r] _ hka (by have := HH.out.2.2.1; omega) hpp (by simp [HLu2.out r]; omega) hkk).mono ?_
          rintro e w8 ⟨A8, n8, c8, rfl, hO8, hb8⟩
          rw [show ([uS kind pin b r] : List (List UInt8)).flatten = uS kind pin b r by simp] at hO8
          have hO8' : Own w8 _ (.slice A8 n8 c8) (uS kind pin b (r + 1)) := hO8
          obtain ⟨g8, c8', he8, hc8, hg8⟩ := hO8'.form_n SZ (HLu2.out (r + 1)) (by omega)
          cases he8
          have hb78 : Below wr.heap.size wr w8 := hal7.trans (hb8.mono (by simp))
          have hne8 : g8 ≠ g6 := by have := (H7.out.2.2.1.lt (g := g6) rfl).2; simp at hg8; omega
          have H8 := Lib.hid (And.intro hO8' (And.intro hb78 (And.intro (H7.out.2.2.1.below hb78) hne8)))
          clear hbl7 hal7 hT70 hbw7 hka hkk hpp hO8 hO8' hb8 hb78 hg8 hne8 hc8
          go_wp2_with fail
          have hml : mixTo (tS kind pin b (r + 1)) (tS kind pin b r) 0 = tS kind pin b r := by simp [mixTo]
          go_loopw [76] (fun i wz => ∃ t : Nat, t ≤ SZ ∧ i = .int .i64 t ∧ Own wz w5.heap.size (.slice (some ⟨g6, 0, none⟩) SZ c6) (mixTo (tS kind pin b (r + 1)) (tS kind pin b r) t) ∧ Turn [g6] w8 wz) (fun i _ => SZ - (intOf i).toNat)
          case atStart => exact ⟨0, by omega, rfl, by rw [hml]; exact H8.out.2.2.1, Turn.refl _ _⟩
          case round =>
            obtain ⟨t, ht, rfl, hO9, hT9⟩ := hrel
            clear hml
            rcases Nat.lt_or_ge t SZ with htl | htl
            · have hlr := HLt2.out r
              have hlr1 := HLt2.out (r + 1)
              have hlu1 := HLu2.out (r + 1)
              obtain ⟨x, hx⟩ : ∃ x, (tS kind pin b r)[t]? = some x := ⟨_, List.getElem?_eq_getElem (by omega)⟩
              obtain ⟨y, hy⟩ : ∃ y, (uS kind pin b (r + 1))[t]? = some y := ⟨_, List.getElem?_eq_getElem (by omega)⟩
              have hxy : (tS kind pin b (r + 1))[t]? = some (x ^^^ y) := by
                show (xorL (tS kind pin b r) (uS kind pin b (r + 1)))[t]? = _
                unfold xorL; rw [List.getElem?_zipWith, hx, hy]
              have cx := hO9.cell t x (by rw [mixTo_get _ _ _ (by omega)]; exact hx)
              have fx := hO9.frozen t
              have cy := (H8.out.1.turn hT9 (fun q hq hm => by simp [Value.ownBlock] at hq hm; exact H8.out.2.2.2 (hq.trans hm))).cell t y hy
              have h1' := hO9.set_ t (x ^^^ y) htl
              rw [mixTo_set _ _ _ _ hxy (by omega)] at h1'
              have h2' := hT9.setCell (p := ⟨g6, t, none⟩) (.inl (by simp)) (B (x ^^^ y))
              have hti : (t : Int) < SZ := by omega
              have ht0 : (0 : Int) ≤ t := by omega
              have H9 := Lib.hid (And.intro h1' h2')
              clear hO9 hT9 hx hy hxy h1' h2' hlr hlr1 hlu1 htl ht
              go_wp2_with fail
              go_still_tail 10, (by kernel_rfl)
              go_wp2_with fail
              go_roundw
              case rel => exact ⟨t + 1, by omega, by go_num, H9.out.1.below (Below.refl _ _).drew, H9.out.2.drew⟩
              case measure => simp [intOf]; omega
            · obtain rfl : t = SZ := by omega
              have hq : ¬ ((t : Int) < t) := by omega
              have e1 : mixTo (tS kind pin b (r + 1)) (tS kind pin b r) t = tS kind pin b (r + 1) := by unfold mixTo; rw [List.take_of_length_le (by rw [HLt2.out]; omega), List.drop_eq_nil_of_le (by rw [HLt2.out]; omega), List.append_nil]
              rw [e1] at hO9
              have hu9 := (H8.out.1.turn hT9 (fun q hq hm => by simp [Value.ownBlock] at hq hm; exact H8.out.2.2.2 (hq.trans hm))).rd
              have H9 := Lib.hid (And.intro hO9 (And.intro hT9 hu9))
              clear hO9 hT9 hu9 e1 htl ht
              go_wp2_with fail
              go_roundw
              case rel => exact ⟨r + 1, _, _, _, by have := H7.out.2.2.2.2.2; omega, by go_num, rfl, H9.out.2.2, fun ad had => by cases had; exact H8.out.2.2.2, H9.out.1, (H7.out.2.2.2.1.trans (Turn.of_below [] H8.out.2.1) (by simp)).trans H9.out.2.1 (by simp)⟩
              case measure => have := H7.out.2.2.2.2.2; simp [intOf]; omega
        · have hrR : r = R - 1 := by omega
          have hri : ¬ ((r : Int) < (R : Int) - 1) := by omega
          have hbw7 : Below wx.heap.size wx wr := below_turn H6.out.2.1 hT7 (by have := H5.out.2.1.size; simp; omega) (H6.out.2.1).size
          have hOo := H1.out.1.below hbw7
          rw [hrR] at hO7
          have H7 := Lib.hid (And.intro hO7 (And.intro hbw7 hOo))
          clear hR7 hA7 hO7 hT7 hbw7 hOo hge hr7
          go_wp2_with (at_builtin; go_must (refine wp_app2 (.tmp 91) (.tmp 92) w0.heap.size _ (pbk kind pin salt R k) H7.out.2.2 (Nat.le_trans H1.out.2.1.size H7.out.2.1.size) _ _ _ _ H7.out.1.rd (by rw [← H7.out.2.2.len, HLt2.out]; omega) rfl rfl rfl rfl ?_; intro A10 n10 c10 w10 hn10 hG10))
          go_roundw
          case rel =>
            refine ⟨k + 1, _, _, _, H1.out.2.2.2, by go_num, rfl, ?_, (H1.out.2.1.trans (H7.out.2.1.mono H1.out.2.1.size)).trans hG10.below⟩
            have := hG10.own
            rw [← H5.out.2.2.1] at this
            exact this
          case measure => have := H1.out.2.2.2; simp [intOf]; omega
    · have hli : ¬ ((m1 : Int) < n) := by omega
      have hms := pkey_of kind pin salt R n k hk (by rw [HLp.out k, ← hm1]; exact hge)
      have hr1 := hO.rd
      have hsl := slice_three A1 m1 c1 n hr1.spot (Nat.le_trans hge hr1.2.1)
      have hfr : Rd wr A1 n n ((pbk kind pin salt R k).take n) := by
        obtain ⟨q1, q2, q3, q4⟩ := hr1.front (k := n) hge
        exact ⟨q1, Nat.le_refl _, by omega, q4.imp (fun h => ⟨h.1, by omega⟩) id⟩
      rw [← hms] at hfr
      have H1 := Lib.hid (And.intro hfr hB)
      clear hO hB hm1 hm20 hk hge hms hr1 hfr
      go_wp2_with fail
      go_ret
      exact ⟨_, _, _, rfl, H1.out.1, H0.out.2.1.trans (H1.out.2.mono H0.out.2.1.size)⟩
end Go.Proofs.YtdgjjmaiibafhaaDoor
namespace Go.Proofs.YtdgjjmaiibafhaaDoor
set_option maxRecDepth 100000
open Go.RowKit

set_option maxHeartbeats 1000000 in
theorem rhmacE_any (kind : Int) (hk : 1 ≤ kind ∧ kind ≤ 5) (A : Option Addr) (m c : Nat) (key : List UInt8) (A2 : Option Addr) (m2 c2 : Nat) (b : List UInt8) (w : World) (hr : RdE w A m c key) (hl : key.length ≤ 140737488352000)
    (hr2 : Rd w A2 m2 c2 b) (hl2 : b.length ≤ 140737488351500) :
    Calls Tryd.prog 43 #[.int .i64 kind, .slice A m c, .slice A2 m2 c2] w (RowRes w (rhmac kind key b)) := by
  have hbc := bl_cases kind hk
  have hblk : hblock kind = ((bl kind : Nat) : Int) := by rcases hbc with ⟨h1, h2⟩ | ⟨h1, h2⟩ <;> rw [h1, h2] <;> rfl
  have HBl := Lib.hid (rblock_any kind)
  have hm := hr.lenE
  have hkl := rhkey_len kind key hk hl
  have hk1 : rhkey kind key = if bl kind < m then rof kind key else key := by unfold rhkey; rw [hm]
  have HR := Lib.hid (rof_res_all kind)
  have HRl := Lib.hid (rof_len kind hk)
  have HS := Lib.hid (hsize_le kind hk)
  have hpl := padTo_len (bl kind) (rhkey kind key) hkl
  have hB64 : 64 ≤ bl kind ∧ bl kind ≤ 128 := by rcases hbc with ⟨h1, h2⟩ | ⟨h1, h2⟩ <;> omega
  have hdef : rhmac kind key b = rof kind (xorAll (padTo (bl kind) (rhkey kind key)) 92 ++ rof kind (xorAll (padTo (bl kind) (rhkey kind key)) 54 ++ b)) := rfl
  rw [hblk] at HBl
  generalize bl kind = BL at *
  have HH := Lib.hid (And.intro hr (And.intro hl (And.intro hr2 (And.intro hl2 (And.intro hk1 (And.intro hkl (And.intro hpl (And.intro hdef hB64))))))))
  have hB0 : (((BL : Nat) : Int) == 0) = false := by rw [beq_eq_false_iff_ne]; omega
  have hBi : (BL : Int) ≤ 128 := by omega
  clear hr hl hr2 hl2 hk1 hkl hpl hdef hB64 hblk hbc hm
  go_enter Tryd.func43, Tryd.ntmps43
  go_upto_if 20 with (go_at_call 50; refine (HBl.out _).mono ?_; rintro e w' ⟨rfl, rfl⟩)
  go_cut [1] (fun v wx => ∃ A' m' c', v = .slice A' m' c' ∧ RdE wx A' m' c' (rhkey kind key) ∧ Below w.heap.size w wx)
  case first =>
    rcases Nat.lt_or_ge BL m with hlt | hge
    · have hgi : (BL : Int) < m := by omega
      have hk1 := HH.out.2.2.2.2.1
      rw [if_pos hlt] at hk1
      have Hk1 := Lib.hid hk1
      have HRd := Lib.hid (HH.out.1.rdE (by omega))
      clear hk1 hlt
      go_wp2_with (go_at_call 51; refine (HR.out A m c key w HRd.out HH.out.2.1).mono ?_; rintro e w1 ⟨A1, n1, c1, rfl, hO1, hb1⟩)
      go_meet
      case rel => exact ⟨A1, n1, c1, rfl, by rw [Hk1.out]; exact .inl hO1.rd, hb1⟩
    · have hgi : ¬ ((BL : Int) < m) := by omega
      have hk1 := HH.out.2.2.2.2.1
      rw [if_neg (by omega)] at hk1
      have Hk1 := Lib.hid hk1
      clear hk1 hge
      go_wp2_with fail
      go_meet
      case rel => exact ⟨A, m, c, rfl, by rw [Hk1.out]; exact HH.out.1, Below.refl _ _⟩
  case rest =>
    obtain ⟨A', m', c', rfl, hrd, hbw⟩ := hcut
    generalize wc = wx at *
    have hm' := hrd.lenE
    have hlk : m' ≤ BL := by rw [hm']; exact HH.out.2.2.2.2.2.1
    obtain ⟨hkk, hhk⟩ : ∃ hkk, rhkey kind key = hkk := ⟨_, rfl⟩
    rw [hhk] at hrd hm'
    obtain ⟨pd, hpd⟩ : ∃ pd, padTo BL hkk = pd := ⟨_, rfl⟩
    have hpl : pd.length = BL := by rw [← hpd, ← hhk]; exact HH.out.2.2.2.2.2.2.1
    have hmk := Tryd.prog_make BL (by have := HH.out.2.2.2.2.2.2.2.2; omega)
    have HX := Lib.hid (And.intro hrd (And.intro hbw (And.intro hm' (And.intro hhk (And.intro hpd hpl)))))
    clear hrd hbw hm' hhk hpd hpl
    go_wp2_with fail
    have z0 := two_zeros wx BL (by have := HH.out.2.2.2.2.2.2.2.2; unfold maxLen; omega)
    have HZ := Lib.hid z0
    clear z0 hmk
    go_loopw [10] (fun i wr => ∃ k : Nat, k ≤ BL ∧ i = .int .i64 k ∧ Own wr wx.heap.size (.slice (some ⟨wx.heap.size, 0, none⟩) BL BL) (mixTo (xorAll pd 54) (zs BL) k) ∧ Own wr wx.heap.size (.slice (some ⟨wx.heap.size + 1, 0, none⟩) BL BL) (mixTo (xorAll pd 92) (zs BL) k) ∧ Below wx.heap.size wx wr) (fun i _ => BL - (intOf i).toNat)
    case atStart => exact ⟨0, by omega, rfl, by simpa [mixTo] using HZ.out.1, by simpa [mixTo] using HZ.out.2.1, HZ.out.2.2⟩
    case round =>
      obtain ⟨k, hk2, rfl, hI, hO, hB⟩ := hrel
      rcases Nat.lt_or_ge k BL with hlt | hge
      · have hki : (k : Int) < BL := by omega
        have hk0 : (0 : Int) ≤ k := by omega
        have l54 : (xorAll pd 54).length = BL := by rw [xorAll_len, HX.out.2.2.2.2.2]
        have l92 : (xorAll pd 92).length = BL := by rw [xorAll_len, HX.out.2.2.2.2.2]
        have ci := hI.cell k 0 (by rw [mixTo_get _ _ _ (by omega)]; simp [zs, hlt])
        have fi := hI.frozen k
        have hrx := HX.out.1.below hB
        rcases Nat.lt_or_ge k m' with hkm | hkm
        · obtain ⟨x, hx⟩ : ∃ x, hkk[k]? = some x := ⟨_, List.getElem?_eq_getElem (by rw [← HX.out.2.2.1]; exact hkm)⟩
          have hpx : pd[k]? = some x := by rw [← HX.out.2.2.2.2.1]; exact padTo_lt _ _ _ _ hx
          obtain ⟨bb, off, rfl, hat⟩ := (hrx.rdE (by omega)).addr (by omega)
          have cx := hat.2 k x hx
          have h1 := hI.set_ k (x ^^^ 54) hlt
          rw [mixTo_set _ _ _ _ (xorAll_get _ _ _ _ hpx) (by rw [zs_len]; exact hlt)] at h1
          have hO' : Own (wr.setCell ⟨wx.heap.size, k, none⟩ (B (x ^^^ 54))) wx.heap.size (.slice (some ⟨wx.heap.size + 1, 0, none⟩) BL BL) (mixTo (xorAll pd 92) (zs BL) k) := hO.turn ((Turn.refl [wx.heap.size] wr).setCell (.inl (by simp)) _) (fun g hg hm => by simp [Value.ownBlock] at hg hm; omega)
          have co := hO'.cell k 0 (by rw [mixTo_get _ _ _ (by omega)]; simp [zs, hlt])
          have fo := hO'.frozen k
          have h2 := hO'.set_ k (x ^^^ 92) hlt
          rw [mixTo_set _ _ _ _ (xorAll_get _ _ _ _ hpx) (by rw [zs_len]; exact hlt)] at h2
          have h3 := h1.turn ((Turn.refl [wx.heap.size + 1] _).setCell (p := ⟨wx.heap.size + 1, k, none⟩) (.inl (by simp)) (B (x ^^^ 92))) (fun g hg hm => by simp [Value.ownBlock] at hg hm; omega)
          have h4 := (hB.setCell (p := ⟨wx.heap.size, k, none⟩) (Nat.le_refl _) (B (x ^^^ 54))).setCell (p := ⟨wx.heap.size + 1, k, none⟩) (Nat.le_succ _) (B (x ^^^ 92))
          have hmi : (k : Int) < m' := by omega
          have Hr := Lib.hid (And.intro h3 (And.intro h2 h4))
          clear hI hO hB hrx hx hpx hat h1 hO' h2 h3 h4 l54 l92 hlt hkm hk2
          go_wp2_with fail
          refine ⟨⟨k + 1, by omega, by go_num, Hr.out.1, Hr.out.2.1, Hr.out.2.2⟩, by simp [intOf]; omega⟩
        · have hpx : pd[k]? = some 0 := by rw [← HX.out.2.2.2.2.1]; exact padTo_ge _ _ _ (by rw [← HX.out.2.2.1]; exact hkm) hlt
          have h1 := hI.set_ k (0 ^^^ 54) hlt
          rw [mixTo_set _ _ _ _ (xorAll_get _ _ _ _ hpx) (by rw [zs_len]; exact hlt)] at h1
          have hO' : Own (wr.setCell ⟨wx.heap.size, k, none⟩ (B (0 ^^^ 54))) wx.heap.size (.slice (some ⟨wx.heap.size + 1, 0, none⟩) BL BL) (mixTo (xorAll pd 92) (zs BL) k) := hO.turn ((Turn.refl [wx.heap.size] wr).setCell (.inl (by simp)) _) (fun g hg hm => by simp [Value.ownBlock] at hg hm; omega)
          have co := hO'.cell k 0 (by rw [mixTo_get _ _ _ (by omega)]; simp [zs, hlt])
          have fo := hO'.frozen k
          have h2 := hO'.set_ k (0 ^^^ 92) hlt
          rw [mixTo_set _ _ _ _ (xorAll_get _ _ _ _ hpx) (by rw [zs_len]; exact hlt)] at h2
          have h3 := h1.turn ((Turn.refl [wx.heap.size + 1] _).setCell (p := ⟨wx.heap.size + 1, k, none⟩) (.inl (by simp)) (B (0 ^^^ 92))) (fun g hg hm => by simp [Value.ownBlock] at hg hm; omega)
          have h4 := (hB.setCell (p := ⟨wx.heap.size, k, none⟩) (Nat.le_refl _) (B (0 ^^^ 54))).setCell (p := ⟨wx.heap.size + 1, k, none⟩) (Nat.le_succ _) (B (0 ^^^ 92))
          rw [show B (0 ^^^ 54) = .int .u8 54 from rfl] at h3 h2 h4 co fo
          rw [show B (0 ^^^ 92) = .int .u8 92 from rfl] at h3 h2 h4
          have hmi : ¬ ((k : Int) < m') := by omega
          have x54 : binOp .xor 5 (.int .u8 0) (.int .u8 54) = pure (.int .u8 54) := xorI_B _ 0 54 (by decide)
          have x92 : binOp .xor 5 (.int .u8 0) (.int .u8 92) = pure (.int .u8 92) := xorI_B _ 0 92 (by decide)
          have Hr := Lib.hid (And.intro h3 (And.intro h2 h4))
          clear hI hO hB hrx hpx h1 hO' h2 h3 h4 l54 l92 hlt hkm hk2
          go_wp2_with fail
          refine ⟨⟨k + 1, by omega, by go_num, Hr.out.1, Hr.out.2.1, Hr.out.2.2⟩, by simp [intOf]; omega⟩
      · obtain rfl : k = BL := by omega
        have hq : ¬ ((k : Int) < k) := by omega
        have l54 : (xorAll pd 54).length = k := by rw [xorAll_len, HX.out.2.2.2.2.2]
        have l92 : (xorAll pd 92).length = k := by rw [xorAll_len, HX.out.2.2.2.2.2]
        have e1 : mixTo (xorAll pd 54) (zs k) k = xorAll pd 54 := by unfold mixTo; rw [List.take_of_length_le (by omega), List.drop_eq_nil_of_le (by rw [zs_len]; omega), List.append_nil]
        have e2 : mixTo (xorAll pd 92) (zs k) k = xorAll pd 92 := by unfold mixTo; rw [List.take_of_length_le (by omega), List.drop_eq_nil_of_le (by rw [zs_len]; omega), List.append_nil]
        rw [e1] at hI
        rw [e2] at hO
        have hrb : Rd wr A2 m2 c2 b := (HH.out.2.2.1.below HX.out.2.1).below hB
        have H1 := Lib.hid (And.intro hI (And.intro hO (And.intro hB (And.intro hrb (And.intro l54 l92)))))
        clear hI hO hB hrb l54 l92 e1 e2 hge hk2
        go_wp2_with (at_builtin; go_must (refine wp_app2 (.tmp 52) (.tmp 53) wx.heap.size _ (xorAll pd 54) H1.out.1 H1.out.2.2.1.size A2 m2 c2 b H1.out.2.2.2.1 (by rw [H1.out.2.2.2.2.1]; have := HH.out.2.2.2.1; omega) rfl rfl rfl rfl ?_; intro A3 n3 c3 w3 hn3 hG3))
        refine (HR.out A3 n3 c3 _ w3 hG3.own.rd (by rw [List.length_append, H1.out.2.2.2.2.1]; have := HH.out.2.2.2.1; omega)).mono ?_
        rintro e w4 ⟨A4, n4, c4, rfl, hO4, hb4⟩
        have h3n : ∀ q, (Value.slice (some ⟨wx.heap.size + 1, 0, none⟩) k k).ownBlock = some q → (Value.slice (some ⟨wx.heap.size, 0, none⟩) k k).ownBlock ≠ some q := by
          intro q hq hq2
          simp [Value.ownBlock] at hq hq2; omega
        have hO3 : Own w3 wx.heap.size (.slice (some ⟨wx.heap.size + 1, 0, none⟩) k k) (xorAll pd 92) := H1.out.2.1.keep fun q hq => hG3.grown.block q (H1.out.2.1.lt hq).2 (fun e => h3n q hq e.symm)
        have hO4' := hO3.below hb4
        have hsz4 : wx.heap.size ≤ w4.heap.size := Nat.le_trans hG3.below.size hb4.size |> fun h => Nat.le_trans H1.out.2.2.1.size h
        have hl4 : (rof kind (xorAll pd 54 ++ b)).length ≤ 64 := by rw [HRl.out _ (by rw [List.length_append, H1.out.2.2.2.2.1]; have := HH.out.2.2.2.1; omega)]; exact HS.out
        have hb34 : Below wx.heap.size wx w4 := (H1.out.2.2.1.trans hG3.below).trans (hb4.mono (Nat.le_trans H1.out.2.2.1.size hG3.below.size))
        have H4 := Lib.hid (And.intro hO4' (And.intro hO4.rd (And.intro hsz4 (And.intro hl4 hb34))))
        clear h3n hO3 hO4' hO4 hsz4 hl4 hb34 hb4 hG3
        go_wp2_with (at_builtin; go_must (refine wp_app2 (.tmp 57) (.tmp 58) wx.heap.size _ (xorAll pd 92) H4.out.1 H4.out.2.2.1 A4 n4 c4 _ H4.out.2.1 (by rw [H1.out.2.2.2.2.2]; have := H4.out.2.2.2.1; omega) rfl rfl rfl rfl ?_; intro A5 n5 c5 w5 hn5 hG5))
        refine (HR.out A5 n5 c5 _ w5 hG5.own.rd (by rw [List.length_append, H1.out.2.2.2.2.2]; have := H4.out.2.2.2.1; omega)).mono ?_
        rintro e w6 ⟨A6, n6, c6, rfl, hO6, hb6⟩
        go_wp2_with fail
        go_ret
        refine ⟨A6, n6, c6, rfl, ?_, ?_⟩
        · rw [HH.out.2.2.2.2.2.2.2.1, HX.out.2.2.2.1, HX.out.2.2.2.2.1]
          exact hO6.mono (Nat.le_trans HX.out.2.1.size (Nat.le_trans H4.out.2.2.1 hG5.below.size))
        · have h5 := H4.out.2.2.2.2.trans hG5.below
          exact HX.out.2.1.trans ((h5.trans (hb6.mono h5.size)).mono HX.out.2.1.size)
end Go.Proofs.YtdgjjmaiibafhaaDoor
namespace Go.Proofs.YtdgjjmaiibafhaaDoor
set_option maxRecDepth 100000
open Go.RowKit

set_option maxRecDepth 100000 in
set_option maxHeartbeats 4000000 in
theorem pb_in2E (kind : Int) (hk : 1 ≤ kind ∧ kind ≤ 5) (R n : Nat) (hR : 1 ≤ R ∧ R ≤ 65536) (hn : 1 ≤ n ∧ n ≤ 65536) (hq : R * ((n + (hsize kind).toNat - 1) / (hsize kind).toNat) ≤ 65536) (A : Option Addr) (m c : Nat) (pin : List UInt8) (A2 : Option Addr) (m2 c2 : Nat) (salt : List UInt8)
    (w : World) (hr : RdE w A m c pin) (hp : pin.length ≤ 1000) (hr2 : Rd w A2 m2 c2 salt) (hs : salt.length ≤ 1000) :
    Calls Tryd.prog 39 #[.int .i64 kind, .slice A m c, .slice A2 m2 c2, .int .i64 R, .int .i64 n] w (RdRes w (pkey kind pin salt R n)) := by
  have hsz := hsize_pos kind hk
  have hsz2 := hsize_le kind hk
  have hpos : hsize kind = (((hsize kind).toNat : Nat) : Int) := by rw [Int.toNat_of_nonneg (by omega)]
  have HSz := Lib.hid (rsize_any kind)
  rw [hpos] at HSz
  have HLt := Lib.hid (fun b hb r => tS_len kind hk pin b hp hb r)
  have HLu := Lib.hid (fun b hb r => uS_len kind hk pin b hp hb r)
  have HLp := Lib.hid (fun k => pbk_len kind hk pin salt hp hs R k)
  generalize (hsize kind).toNat = SZ at *
  obtain ⟨q, p, hq1, hq2, hq3⟩ := pb_tests2 R n SZ ⟨hsz, hsz2⟩ hR hn hq
  have HH := Lib.hid (And.intro hk (And.intro hr (And.intro hp (And.intro hr2 (And.intro hs hpos)))))
  have hz : (((SZ : Nat) : Int) == 0) = false := by rw [beq_eq_false_iff_ne]; omega
  have h1 : decide ((R : Int) < 1) = false := decide_eq_false (by omega)
  have h2 : decide ((65536 : Int) < R) = false := decide_eq_false (by omega)
  have h3 : decide ((n : Int) < 1) = false := decide_eq_false (by omega)
  have h4 : decide ((65536 : Int) < n) = false := decide_eq_false (by omega)
  have h5 : decide (p < q) = false := decide_eq_false hq3
  clear hq3
  have hni : (n : Int) ≤ 65536 := by omega
  have hn1 : (1 : Int) ≤ n := by omega
  have hRi : (R : Int) ≤ 65536 := by omega
  have hR1 : (1 : Int) ≤ R := by omega
  have hSi : (SZ : Int) ≤ 64 := by omega
  have hS2 : (20 : Int) ≤ SZ := by omega
  have hsum : IntKind.i64.wrap ((n : Int) + SZ) = (n : Int) + SZ := IntWalk.i64_in _ (by omega)
  have hsub : IntKind.i64.wrap ((n : Int) + SZ - 1) = (n : Int) + SZ - 1 := IntWalk.i64_in _ (by omega)
  clear hk hr hp hr2 hs hpos hq hR hn
  go_enter Tryd.func39, Tryd.ntmps39
  go_wp2_with (go_at_call 48; refine (HSz.out _).mono ?_; rintro e w' ⟨rfl, rfl⟩)
  go_quiet (fail)
  have ho0 : Old w (w.drewN nq) := (Old.refl w).drewN nq
  have H0 := Lib.hid (And.intro ho0 (And.intro (HH.out.2.1.below ho0) (HH.out.2.2.2.1.below ho0)))
  clear ho0 hsum hsub
  generalize w.drewN nq = w0 at *
  simp only [Exit.then]
  go_wp2_with fail
  go_loopw [12, 13] (fun v i wr => ∃ (k : Nat) (A : Option Addr) (m c : Nat), k ≤ n ∧ i = .int .i64 ((k + 1 : Nat) : Int) ∧ v = .slice A m c ∧ Own wr w0.heap.size (.slice A m c) (pbk kind pin salt R k) ∧ Below w0.heap.size w0 wr) (fun _ i _ => (n + 1 - intOf i).toNat)
  case atStart => exact ⟨0, _, _, _, by omega, rfl, rfl, Own.nil _ _, Below.refl _ _⟩
  case round =>
    obtain ⟨k, A1, m1, c1, hk, rfl, rfl, hO, hB⟩ := hrel
    have hm1 := hO.len
    rw [HLp.out k] at hm1
    have hm20 : k * 20 ≤ m1 := by rw [hm1]; exact Nat.mul_le_mul_left k hsz
    have hki : (k : Int) ≤ 65536 := by omega
    have hk0 : (0 : Int) ≤ k := by omega
    rcases Nat.lt_or_ge m1 n with hlt | hge
    · have hli : (m1 : Int) < n := by omega
      have hkn : k < n := by omega
      have hkn' : k ≤ 65535 := by omega
      have H1 := Lib.hid (And.intro hO (And.intro hB (And.intro hm1 hkn)))
      clear hO hB hm1 hm20 hk hlt hkn
      generalize wr = wx at *
      have HF := Lib.hid (four_any ((k : Int) + 1) wx (by omega) (by omega))
      go_wp2_with fail
      refine HF.out.mono ?_
      rintro e w3 ⟨rfl, hO3, hb3⟩
      have hrs := (H0.out.2.2.below H1.out.2.1).below hb3
      have hrp := (H0.out.2.1.below H1.out.2.1).below hb3
      have hbl := Blk.new w3 22 #[.slice A2 m2 c2, .slice (some ⟨wx.heap.size, 0, none⟩) 4 4]
      have hal : Below w3.heap.size w3 (w3.alloc (.cells #[.slice A2 m2 c2, .slice (some ⟨wx.heap.size, 0, none⟩) 4 4] 22)) := (Below.refl _ _).alloc (Nat.le_refl _) _
      have hpp := rd_two hbl (hrs.below hal) (hO3.rd.below hal)
      have hb4 : Below wx.heap.size wx (w3.alloc (.cells #[.slice A2 m2 c2, .slice (some ⟨wx.heap.size, 0, none⟩) 4 4] 22)) := hb3.trans (hal.mono hb3.size)
      have hfl : ([salt, num4 ((k : Int) + 1)] : List (List UInt8)).flatten = salt ++ num4 ((k : Int) + 1) := by simp
      obtain ⟨b, hb⟩ : ∃ b, salt ++ num4 ((k : Int) + 1) = b := ⟨_, rfl⟩
      have hbl2 : b.length ≤ 2000 := by rw [← hb, List.length_append, num4_len]; have := HH.out.2.2.2.2.1; omega
      go_wp2_with fail
      refine (join_any _ 2 2 [salt, num4 ((k : Int) + 1)] _ hpp (by rw [hfl, hb]; omega)).mono ?_
      rintro e w4 ⟨v4, rfl, hO4, hb4'⟩
      obtain ⟨A4, n4, c4, rfl, hr4⟩ : ∃ A n c, v4 = .slice A n c ∧ Rd w4 A n c b := by
        obtain ⟨A, c, he, hr, _⟩ := hO4.shape
        rw [hfl, hb] at he hr
        exact ⟨_, _, _, he, hr⟩
      have hbx4 := hb4.trans (hb4'.mono hb4.size)
      have H4 := Lib.hid (And.intro hr4 (And.intro hbx4 (And.intro (hrp.below (hal.trans (hb4'.mono hal.size))) (And.intro hb hbl2))))
      clear hrs hrp hbl hal hpp hb4 hfl hO4 hb4' hr4 hbx4 hO3 hb3 HF hb hbl2
      go_wp2_with fail
      refine (rhmacE_any kind HH.out.1 A m c pin A4 n4 c4 b w4 H4.out.2.2.1 (by have := HH.out.2.2.1; omega) H4.out.1 (by have := H4.out.2.2.2.2; omega)).mono ?_
      rintro e w5 ⟨A5, n5, c5, rfl, hO5, hb5⟩
      have hlt0 := HLt.out b H4.out.2.2.2.2
      have hlu0 := HLu.out b H4.out.2.2.2.2
      have HLt2 := Lib.hid hlt0
      have HLu2 := Lib.hid hlu0
      obtain ⟨g5, c5', he5, hc5, _⟩ := hO5.form_n SZ (hlu0 0) (by omega)
      cases he5
      have H5 := Lib.hid (And.intro hO5 (H4.out.2.1.trans (hb5.mono H4.out.2.1.size)))
      have hg5 := (hO5.lt (g := g5) rfl)
      clear hO5 hb5 hlt0 hlu0 hc5
      go_wp2_with (at_builtin; go_must (refine wp_app2 _ (.tmp 65) w5.heap.size _ [] (Own.nil _ _) (Nat.le_refl _) _ _ _ _ H5.out.1.rd (by rw [show (rhmac kind pin b).length = SZ from HLu2.out 0]; simp; omega) rfl rfl rfl rfl ?_; intro A6 n6 c6 w6 hn6 hG6))
      have hO6 : Own w6 w5.heap.size (.slice A6 n6 c6) (tS kind pin b 0) := by have := hG6.own; rw [List.nil_append] at this; exact this
      obtain ⟨g6, c6', he6, hc6, _⟩ := hO6.form_n SZ (HLt2.out 0) (by omega)
      cases he6
      have H6 := Lib.hid (And.intro hO6 (And.intro (H5.out.2.trans (hG6.below.mono H5.out.2.size)) (H5.out.1.rd.below hG6.below)))
      have hg6 := (hO6.lt (g := g6) rfl)
      clear hO6 hG6 hc6 hn6
      go_wp2_with fail
      go_loopw [15, 17] (fun u i wy => ∃ (r : Nat) (A : Option Addr) (m c : Nat), r + 1 ≤ R ∧ i = .int .i64 ((r + 1 : Nat) : Int) ∧ u = .slice A m c ∧ Rd wy A m c (uS kind pin b r) ∧ (∀ ad, A = some ad → ad.block ≠ g6) ∧ Own wy w5.heap.size (.slice (some ⟨g6, 0, none⟩) SZ c6) (tS kind pin b r) ∧ Turn [g6] w6 wy) (fun _ i _ => (R + 1 - intOf i).toNat)
      case atStart => exact ⟨0, _, _, _, by omega, rfl, rfl, H6.out.2.2, fun ad had => by cases had; have := hg5.2; have := hg6.1; simp only; omega, H6.out.1, Turn.refl _ _⟩
      case round =>
        obtain ⟨r, A7, m7, c7, hr7, rfl, rfl, hR7, hA7, hO7, hT7⟩ := hrel
        rcases Nat.lt_or_ge (r + 1) R with hlt | hge
        · have hri : (r : Int) + 1 < (R : Int) := by omega
          have hr0 : (0 : Int) ≤ r := by omega
          have hbw7 : Below wx.heap.size wx wr := below_turn H6.out.2.1 hT7 (by have := H5.out.2.size; simp; omega) (H6.out.2.1).size
          have hrp := ((H0.out.2.1.below H1.out.2.1).below hbw7)
          have H7 := Lib.hid (And.intro hR7 (And.intro hA7 (And.intro hO7 (And.intro hT7 (And.intro hrp hlt)))))
          clear hR7 hA7 hO7 hT7 hrp hlt hr7 hbw7
          go_wp2_with fail
          refine (rhmacE_any kind HH.out.1 A m c pin A7 m7 c7 (uS kind pin b r) wr H7.out.2.2.2.2.1 (by have := HH.out.2.2.1; omega) H7.out.1 (by rw [HLu2.out r]; omega)).mono ?_
          rintro e w8 ⟨A8, n8, c8, rfl, hO8, hb8⟩
          have hO8' : Own w8 _ (.slice A8 n8 c8) (uS kind pin b (r + 1)) := hO8
          obtain ⟨g8, c8', he8, hc8, hg8⟩ := hO8'.form_n SZ (HLu2.out (r + 1)) (by omega)
          cases he8
          have hne8 : g8 ≠ g6 := by have := (H7.out.2.2.1.lt (g := g6) rfl).2; omega
          have H8 := Lib.hid (And.intro hO8' (And.intro hb8 (And.intro (H7.out.2.2.1.below hb8) hne8)))
          clear hO8 hO8' hb8 hg8 hne8 hc8
          go_wp2_with fail
          have hml : mixTo (tS kind pin b (r + 1)) (tS kind pin b r) 0 = tS kind pin b r := by simp [mixTo]
          go_loopw [18] (fun i wz => ∃ t : Nat, t ≤ SZ ∧ i = .int .i64 t ∧ Own wz w5.heap.size (.slice (some ⟨g6, 0, none⟩) SZ c6) (mixTo (tS kind pin b (r + 1)) (tS kind pin b r) t) ∧ Turn [g6] w8 wz) (fun i _ => SZ - (intOf i).toNat)
          case atStart => exact ⟨0, by omega, rfl, by rw [hml]; exact H8.out.2.2.1, Turn.refl _ _⟩
          case round =>
            obtain ⟨t, ht, rfl, hO9, hT9⟩ := hrel
            clear hml
            rcases Nat.lt_or_ge t SZ with htl | htl
            · have hlr := HLt2.out r
              have hlr1 := HLt2.out (r + 1)
              have hlu1 := HLu2.out (r + 1)
              obtain ⟨x, hx⟩ : ∃ x, (tS kind pin b r)[t]? = some x := ⟨_, List.getElem?_eq_getElem (by omega)⟩
              obtain ⟨y, hy⟩ : ∃ y, (uS kind pin b (r + 1))[t]? = some y := ⟨_, List.getElem?_eq_getElem (by omega)⟩
              have hxy : (tS kind pin b (r + 1))[t]? = some (x ^^^ y) := by
                show (xorL (tS kind pin b r) (uS kind pin b (r + 1)))[t]? = _
                unfold xorL; rw [List.getElem?_zipWith, hx, hy]
              have cx := hO9.cell t x (by rw [mixTo_get _ _ _ (by omega)]; exact hx)
              have fx := hO9.frozen t
              have cy := (H8.out.1.turn hT9 (fun q hq hm => by simp [Value.ownBlock] at hq hm; exact H8.out.2.2.2 (hq.trans hm))).cell t y hy
              have h1' := hO9.set_ t (x ^^^ y) htl
              rw [mixTo_set _ _ _ _ hxy (by omega)] at h1'
              have h2' := hT9.setCell (p := ⟨g6, t, none⟩) (.inl (by simp)) (B (x ^^^ y))
              have hti : (t : Int) < SZ := by omega
              have ht0 : (0 : Int) ≤ t := by omega
              have H9 := Lib.hid (And.intro h1' h2')
              clear hO9 hT9 hx hy hxy h1' h2' hlr hlr1 hlu1 htl ht
              go_wp2_with fail
              go_still_tail 12, (by kernel_rfl)
              go_wp2_with fail
              go_roundw
              case rel => exact ⟨t + 1, by omega, by go_num, H9.out.1.below (Below.refl _ _).drew, H9.out.2.drew⟩
              case measure => simp [intOf]; omega
            · obtain rfl : t = SZ := by omega
              have hq : ¬ ((t : Int) < t) := by omega
              have e1 : mixTo (tS kind pin b (r + 1)) (tS kind pin b r) t = tS kind pin b (r + 1) := by unfold mixTo; rw [List.take_of_length_le (by rw [HLt2.out]; omega), List.drop_eq_nil_of_le (by rw [HLt2.out]; omega), List.append_nil]
              rw [e1] at hO9
              have hu9 := (H8.out.1.turn hT9 (fun q hq hm => by simp [Value.ownBlock] at hq hm; exact H8.out.2.2.2 (hq.trans hm))).rd
              have H9 := Lib.hid (And.intro hO9 (And.intro hT9 hu9))
              clear hO9 hT9 hu9 e1 htl ht
              go_wp2_with fail
              go_roundw
              case rel => exact ⟨r + 1, _, _, _, by have := H7.out.2.2.2.2.2; omega, by go_num, rfl, H9.out.2.2, fun ad had => by cases had; exact H8.out.2.2.2, H9.out.1, (H7.out.2.2.2.1.trans (Turn.of_below [] H8.out.2.1) (by simp)).trans H9.out.2.1 (by simp)⟩
              case measure => have := H7.out.2.2.2.2.2; simp [intOf]; omega
        · have hrR : r = R - 1 := by omega
          have hri : ¬ ((r : Int) + 1 < (R : Int)) := by omega
          have hbw7 : Below wx.heap.size wx wr := below_turn H6.out.2.1 hT7 (by have := H5.out.2.size; simp; omega) (H6.out.2.1).size
          have hOo := H1.out.1.below hbw7
          rw [hrR] at hO7
          have H7 := Lib.hid (And.intro hO7 (And.intro hbw7 hOo))
          clear hR7 hA7 hO7 hT7 hbw7 hOo hge hr7
          go_wp2_with (at_builtin; go_must (refine wp_app2 (.tmp 93) (.tmp 94) w0.heap.size _ (pbk kind pin salt R k) H7.out.2.2 (Nat.le_trans H1.out.2.1.size H7.out.2.1.size) _ _ _ _ H7.out.1.rd (by rw [← H7.out.2.2.len, HLt2.out]; omega) rfl rfl rfl rfl ?_; intro A10 n10 c10 w10 hn10 hG10))
          go_roundw
          case rel =>
            refine ⟨k + 1, H1.out.2.2.2, by go_num, _, _, _, ⟨rfl, rfl, rfl⟩, ?_, (H1.out.2.1.trans (H7.out.2.1.mono H1.out.2.1.size)).trans hG10.below⟩
            have := hG10.own
            rw [← H4.out.2.2.2.1] at this
            exact this
          case measure => have := H1.out.2.2.2; simp [intOf]; omega
    · have hli : ¬ ((m1 : Int) < n) := by omega
      have hms := pkey_of kind pin salt R n k hk (by rw [HLp.out k, ← hm1]; exact hge)
      have hr1 := hO.rd
      have hsl := slice_to A1 m1 c1 n hr1.spot (Nat.le_trans hge hr1.2.1)
      have hfr : Rd wr A1 n c1 ((pbk kind pin salt R k).take n) := hr1.front (k := n) hge
      rw [← hms] at hfr
      have H1 := Lib.hid (And.intro hfr hB)
      clear hO hB hm1 hm20 hk hge hms hr1 hfr
      go_wp2_with fail
      go_ret
      exact ⟨_, _, _, rfl, H1.out.1, Below.trans H0.out.1 (H1.out.2.mono (Below.size H0.out.1))⟩
end Go.Proofs.YtdgjjmaiibafhaaDoor
