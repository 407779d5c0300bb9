/-
  The law HashParts, walked: a hash does not hang on the parts; Sum leaves the state; a copy goes its own way.
-/
import Derived.Test.YtdlipoklhojjkaaDoorBeg3
import Derived.Test.YtdlipoklhojjkaaDoorEmptyE
import Derived.Test.YtdlipoklhojjkaaDoorAppK
namespace Go.Proofs.YtdlipoklhojjkaaDoor
open Go.RowKit

theorem eqNil (w : World) : (binOp .eql 30 (.pointer none) (.pointer none)).run Tryd.prog w = .ok (.bool true) w := by kernel_rfl
set_option maxHeartbeats 4000000 in
theorem hashParts_out (kind : Int) (hk : ¬ (1 ≤ kind ∧ kind ≤ 5)) (v1 v2 : Value) (w : World) (hK : KAt w) :
    Calls Tryd.prog 4 #[.int .i64 kind, v1, v2] w (LawRes w) := by
  have HK := Lib.hid hK
  have HN := Lib.hid (fun w => new_none kind w (by omega))
  have HSz := Lib.hid (rsize_any kind)
  rw [hsize_none kind (by omega)] at HSz
  have hen := eqNil
  clear hK hk
  go_enter Tryd.func4, Tryd.ntmps4
  go_wp2_with (first
    | (go_at_call 11; refine (begun_any _ HK.out).mono ?_; rintro e wx ⟨rfl, hbx⟩; have HB := Lib.hid hbx; clear hbx)
    | (go_at_call 19; refine (HN.out _).mono ?_; rintro e w' ⟨rfl, rfl⟩)
    | (go_at_call 16; refine (HSz.out _).mono ?_; rintro e w' ⟨rfl, rfl⟩)
    | (go_at_call 20; refine (sum_nil _).mono ?_; rintro e wy ⟨rfl, hby⟩; have HB2 := Lib.hid (HB.out.trans (hby.mono HB.out.size)); clear hby)
    | (go_at_call 21; refine (copy_nil _).mono ?_; rintro e wz ⟨rfl, hbz⟩; have HB3 := Lib.hid (HB2.out.trans (hbz.mono HB2.out.size)); clear hbz))
  go_ret
  exact ⟨rfl, HB3.out⟩
/-- What is written lies apart from the state. -/
theorem write_made2 (w W : World) (d : Nat) (kind : Int) (s : HSt) (wv : Value) (A : Option Addr) (m c : Nat) (l : List UInt8) (h : Made w W d kind s wv) (hr : Rd W A m c l) (hl : s.wait.length + l.length ≤ 140737488351232) (hK : KAt w)
    (hA : ∀ ad, A = some ad → ad.block ≠ d ∧ wv.ownBlock ≠ some ad.block) :
    Calls Tryd.prog 22 #[.pointer (some ⟨d, 0, none⟩), .slice A m c] W fun e w' => e = .returned (.tuple #[]) ∧ ∃ wv', Made w w' d kind (s.write kind l) wv' ∧ Turn (d :: wv.ownBlock.toList) W w' ∧ (∀ g, wv'.ownBlock = some g → W.heap.size ≤ g) := by
  refine (write_any d kind s.hs s.wait s.n wv A m c l W h.at_ hr hl (hK.below h.below) hA).mono ?_
  rintro e w' ⟨he, ⟨wv', hA', hf⟩, hT⟩
  refine ⟨he, wv', ⟨h.lt, hA', fun g hg => Nat.le_trans h.below.size (hf g hg), below_turn h.below hT ?_ h.below.size⟩, hT, hf⟩
  intro t ht
  rcases List.mem_cons.1 ht with rfl | ht
  · exact h.lt
  · exact h.fresh t (by simpa using ht)
theorem copy_made (w W : World) (d : Nat) (kind : Int) (s : HSt) (wv : Value) (h : Made w W d kind s wv) (hl : s.wait.length ≤ 140737488351232) (hK : KAt w) :
    Calls Tryd.prog 21 #[.pointer (some ⟨d, 0, none⟩)] W fun e w' => ∃ d' wv', e = .returned (.pointer (some ⟨d', 0, none⟩)) ∧ W.heap.size ≤ d' ∧ Made w w' d' kind s wv' ∧ (∀ g, wv'.ownBlock = some g → W.heap.size ≤ g) ∧ Old W w' :=
  (copy_any d kind s.hs s.wait s.n wv W h.at_ hl (hK.below h.below)).mono fun e w' ⟨d', wv', he, hd, hA, hf, hb⟩ =>
    ⟨d', wv', he, hd, ⟨Nat.le_trans h.below.size hd, hA, fun g hg => Nat.le_trans h.below.size (hf g hg), h.below.trans (hb.mono h.below.size)⟩, hf, hb⟩
/-- The parts, each cut to 100 bytes, up to j. -/
def pts (ls : List (List UInt8)) (j : Nat) : List (List UInt8) := (ls.take j).map (·.take 100)
theorem pts_succ (ls : List (List UInt8)) (j : Nat) (l : List UInt8) (h : ls[j]? = some l) : pts ls (j + 1) = pts ls j ++ [l.take 100] := by
  unfold pts
  rw [List.take_add_one, h, List.map_append]
  rfl
theorem pts_len (ls : List (List UInt8)) (j : Nat) : (pts ls j).flatten.length ≤ 100 * j := by
  induction j generalizing ls with
  | zero => simp [pts]
  | succ j ih =>
    cases ls with
    | nil => simp [pts]
    | cons l ls =>
      have := ih ls
      unfold pts at this ⊢
      rw [List.take_succ_cons, List.map_cons, List.flatten_cons, List.length_append, List.length_take]
      omega
theorem nePtr (a : Addr) (w : World) : (binOp .eql 30 (.pointer (some a)) (.pointer none)).run Tryd.prog w = .ok (.bool false) w := by kernel_rfl
set_option maxRecDepth 100000 in
set_option maxHeartbeats 4000000 in
theorem hashParts_in (kind : Int) (hk : 1 ≤ kind ∧ kind ≤ 5) (A : Option Addr) (m c : Nat) (ls : List (List UInt8)) (A2 : Option Addr) (m2 c2 : Nat) (l2 : List UInt8) (w : World) (hp : RowsAt w A m ls) (hm : m ≤ maxLen) (hr2 : Rd w A2 m2 c2 l2) (hK : KAt w) :
    Calls Tryd.prog 4 #[.int .i64 kind, .slice A m c, .slice A2 m2 c2] w (LawRes w) := by
  have HK := Lib.hid hK
  have HSz := Lib.hid (rsize_any kind)
  have hz : (hsize kind == 0) = false := hsize_ne kind hk
  have hne := nePtr
  have HH := Lib.hid (And.intro hk (And.intro hp hr2))
  have hmi : (m : Int) ≤ 9223372036854775807 := by unfold maxLen at hm; omega
  clear hK hk hp hr2 hm
  go_enter Tryd.func4, Tryd.ntmps4
  go_wp2_with (first
    | (go_at_call 11; refine (begun_any _ HK.out).mono ?_; rintro e wx ⟨rfl, hbx⟩; have HB := Lib.hid hbx; clear hbx)
    | (go_at_call 19; refine (new_made kind _ HH.out.1 (HK.out.below HB.out)).mono ?_; rintro e w1 ⟨d, rfl, hM⟩; have HM := Lib.hid hM; clear hM)
    | (go_at_call 16; refine (HSz.out _).mono ?_; rintro e w' ⟨rfl, rfl⟩))
  go_loopw [9, 10] (fun v i wr => ∃ (j n' c' : Nat) (A' : Option Addr) (wv : Value), j ≤ 12 ∧ j ≤ m ∧ i = .int .i64 (j : Nat) ∧ v = .slice A' n' c' ∧ Own wr wx.heap.size (.slice A' n' c') (pts ls j).flatten ∧ Made wx wr d kind (writes kind (pts ls j)) wv ∧ (∀ g, wv.ownBlock = some g → (Value.slice A' n' c').ownBlock ≠ some g)) (fun _ i _ => 12 - (intOf i).toNat)
  case atStart => exact ⟨0, 0, 0, none, .slice none 0 0, by omega, by omega, rfl, rfl, Own.nil _ _, HM.out, fun g hg => by simp [Value.ownBlock] at hg⟩
  case round =>
    obtain ⟨j, n1, c1, A1, wv, hj, hjm, rfl, rfl, hO, hM, hd⟩ := hrel
    have hM0 := hM
    have hM00 := hM
    have H1 := Lib.hid (And.intro hO (And.intro hM (And.intro hd (And.intro hj hjm))))
    clear hO hM hd
    by_cases hlt : j < m ∧ j < 12
    · obtain ⟨hl1, hl2⟩ := hlt
      have hi1 : (j : Int) < m := by omega
      have hi2 : (j : Int) < 12 := by omega
      obtain ⟨hpl, hz0 | ⟨b0, off0, rfl, hb0, hrow⟩⟩ := HH.out.2.1
      · omega
      obtain ⟨l, hl⟩ : ∃ l, ls[j]? = some l := ⟨_, List.getElem?_eq_getElem (by omega)⟩
      obtain ⟨Aj, mj, cj, hcj, hej⟩ := hrow j l hl
      have hold : Old w wr := Old.trans HB.out hM0.below
      have hcj' : wr.cell? ⟨b0, off0 + j, none⟩ = some (.slice Aj mj cj) := (Below.cell (p := ⟨b0, off0 + j, none⟩) hold hb0).trans hcj
      have HE := Lib.hid (hej.below hold)
      have hC : Calls Tryd.prog 12 #[.slice Aj mj cj, .int .i64 100] wr fun e w' => e = .returned (.slice Aj (min mj 100) cj) ∧ wr = w' := short_E Aj mj cj 100 l wr HE.out (by omega)
      have HC := Lib.hid hC
      have hoj : off0 + j < off0 + m := by omega
      clear hrow hej hcj hl1 hl2 hC hold
      go_wp2_with (first
        | (go_at_call 12; have hc := HC.out; (with_reducible refine hc.mono ?_); clear hc; rintro e w' ⟨rfl, rfl⟩)
        | (at_builtin; have hOp := hGp.own; have hbp := hGp.below; go_must (refine wp_app2 (.tmp 54) (.tmp 55) wx.heap.size (.slice A1 n1 c1) (pts ls j).flatten (H1.out.1.below hbp) (Nat.le_trans H1.out.2.1.below.size hbp.size) Ap np cp _ hOp.rd (by have := pts_len ls j; have h3 : ([] ++ l.take 100 : List UInt8).length ≤ 100 := (by rw [List.nil_append]; exact List.length_take_le _ _); omega) rfl rfl rfl rfl ?_; intro Aa na ca w3 hna hGa))
        | (at_builtin; go_must (refine wp_app2E (.const (.slice none 0 0)) (.tmp 52) wr.heap.size (.slice none 0 0) [] (Own.nil _ _) (Nat.le_refl _) Aj (min mj 100) cj (l.take 100) (HE.out.short (n := 100)) (by simp; omega) rfl rfl rfl rfl ?_; intro Ap np cp w2 hnp hGp)))
      have hM2 : Made wx w2 d kind (writes kind (pts ls j)) wv := H1.out.2.1.later hGp.below
      have hT3 : Turn (Value.slice A1 n1 c1).ownBlock.toList w2 w3 := Turn.of_grown hGa.grown
      have hO2 := H1.out.1.below hGp.below
      have hM3 : Made wx w3 d kind (writes kind (pts ls j)) wv := hM2.turn hT3 (fun hm => hO2.ne hM2.at_.blk (by decide) (by simpa using hm)) (fun g hg hm => H1.out.2.2.1 g hg (by simpa using hm)) (fun t hm => (hO2.lt (by simpa using hm)).1)
      have hpn : ([] ++ l.take 100 : List UInt8) = l.take 100 := List.nil_append _
      have hOp := hGp.own
      rw [hpn] at hOp
      have hpg : ∀ g, (Value.slice Ap np cp).ownBlock = some g → wr.heap.size ≤ g := fun g hg => (hOp.lt hg).1
      have hOp3 := hOp.turn hT3 (fun g hg hm => by have := hpg g hg; have := (H1.out.1.lt (show _ = some g by simpa using hm)).2; omega)
      have hW := write_made2 wx w3 d kind _ wv Ap np cp (l.take 100) hM3 hOp3.rd (by have := writes_wait kind HH.out.1 (pts ls j); have := List.length_take_le 100 l; omega) (HK.out.below HB.out) (fun ad had => by
        subst had
        have hb := hpg ad.block (by simp [Value.ownBlock])
        refine ⟨fun e => by have := H1.out.2.1.at_.blk.lt; omega, fun e => by have := (H1.out.2.1.at_.own.lt e).2; omega⟩)
      rw [← writes_snoc, ← pts_succ ls j l hl] at hW
      refine hW.mono ?_
      rintro e w4 ⟨rfl, wv4, hM4, hT4, hf4⟩
      have hp4 := hOp3.turn hT4 (fun g hg hm => by
        have hb := hpg g hg
        rcases List.mem_cons.1 hm with rfl | hm
        · have := H1.out.2.1.at_.blk.lt; omega
        · have := (H1.out.2.1.at_.own.lt (show _ = some g by simpa using hm)).2; omega)
      have ha4 : Own w4 wx.heap.size (.slice Aa na ca) (pts ls (j + 1)).flatten := by
        have h1 := hGa.own
        rw [hpn, show (pts ls j).flatten ++ l.take 100 = (pts ls (j + 1)).flatten by rw [pts_succ ls j l hl, List.flatten_append]; simp] at h1
        refine h1.turn hT4 (fun g hg hm => ?_)
        have hs2 := hGp.below.size
        rcases hGa.at_ with h2 | h2
        · rw [h2] at hg
          rcases List.mem_cons.1 hm with rfl | hm
          · exact H1.out.1.ne H1.out.2.1.at_.blk (by decide) hg
          · exact H1.out.2.2.1 g (by simpa using hm) hg
        · rw [h2] at hg
          cases hg
          rcases List.mem_cons.1 hm with he | hm
          · have := H1.out.2.1.at_.blk.lt; omega
          · have := (H1.out.2.1.at_.own.lt (show _ = some w2.heap.size by simpa using hm)).2; omega
      have hd4 : ∀ g, wv4.ownBlock = some g → (Value.slice Aa na ca).ownBlock ≠ some g := by
        intro g hg he
        have h1 := hf4 g hg
        have h2 := (hGa.own.lt he).2
        omega
      have hpd : ∀ g, (Value.slice Ap np cp).ownBlock = some g → g ≠ d ∧ (∀ g', wv4.ownBlock = some g' → g' ≠ g) ∧ (∀ g', (Value.slice Aa na ca).ownBlock = some g' → g' ≠ g) := by
        intro g hg
        have h1 := hpg g hg
        have h2 := (hOp.lt hg).2
        refine ⟨fun e => by have := H1.out.2.1.at_.blk.lt; omega, fun g' hg' e => by have := hf4 g' hg'; have := hT3.size; omega, fun g' hg' e => ?_⟩
        rcases hGa.at_ with h3 | h3
        · rw [h3] at hg'; have := (H1.out.1.lt hg').2; omega
        · rw [h3] at hg'; cases hg'; omega
      have hplen := hp4.len
      have H4 := Lib.hid (And.intro hM4 (And.intro ha4 (And.intro hp4 (And.intro hd4 (And.intro hpd (And.intro hplen hl))))))
      have hnp' : np ≤ 100 := by rw [hplen]; exact List.length_take_le _ _
      clear hM2 hT3 hO2 hM3 hpn hOp hpg hOp3 hW hM4 hT4 hf4 hp4 ha4 hd4 hpd hplen hl hcj' hoj hGp hGa hna hnp HE HC
      go_wp2_with fail
      go_loopw [12] (fun i wz => ∃ (t : Nat) (q : List UInt8), t ≤ np ∧ i = .int .i64 (t : Nat) ∧ q.length = np ∧ Own wz wr.heap.size (.slice Ap np cp) q ∧ Turn (Value.slice Ap np cp).ownBlock.toList w4 wz) (fun i _ => np - (intOf i).toNat)
      case atStart => exact ⟨0, _, by omega, rfl, by rw [H4.out.2.2.2.2.2.1], H4.out.2.2.1, Turn.refl _ _⟩
      case round =>
        obtain ⟨t, q, ht, rfl, hql, hOq, hTq⟩ := hrel
        rcases Nat.lt_or_ge t np with hlt | hge
        · have hti : (t : Int) < np := by omega
          have hn0 : (Value.slice Ap np cp) ≠ .slice none 0 0 := hOq.ne_nil (by omega)
          obtain ⟨g, cg, hf⟩ := hOq.form hn0
          injection hf with hf1 hf2 hf3
          subst hf1
          have hfz := hOq.frozen t
          obtain ⟨qt, hqt⟩ : ∃ qt, q[t]? = some qt := ⟨_, List.getElem?_eq_getElem (by omega)⟩
          have hqc := hOq.cell t qt hqt
          clear hqt
          unfold B at hqc
          have Hq := Lib.hid (And.intro hOq (And.intro hTq (And.intro hlt hql)))
          clear hOq hTq hql hf2 hf3 hn0 hlt ht
          go_wp2_with fail
          obtain ⟨hOq, hTq, hlt, hql⟩ := Hq.out
          refine ⟨⟨t + 1, q.set t 9, hlt, by go_num, by rw [List.length_set]; exact hql, hOq.set_ t 9 hlt, hTq.setCell (.inl (by simp [Value.ownBlock])) _⟩, by simp [intOf]; omega⟩
        · have hti : ¬ ((t : Int) < np) := by omega
          obtain ⟨hM4, ha4, hp4, hd4, hpd, hplen, hl⟩ := H4.out
          have hM5 : Made wx wr d kind (writes kind (pts ls (j + 1))) wv4 := hM4.turn hTq (fun hm => (hpd d (by simpa using hm)).1 rfl) (fun g hg hm => (hpd g (by simpa using hm)).2.1 g hg rfl) (fun x hx => Nat.le_trans hM00.below.size (hOq.lt (by simpa using hx)).1)
          have ha5 := ha4.turn hTq (fun g hg hm => (hpd g (by simpa using hm)).2.2 g hg rfl)
          have H5 := Lib.hid (And.intro hM5 (And.intro ha5 hd4))
          clear hM4 ha4 hp4 hpd hplen hl hM5 ha5 hd4 hOq hTq hql
          go_wp2_with fail
          refine region_old (by kernel_rfl) (fun wd hHeld hSz => ?_)
          have HSz := Lib.hid hSz
          clear hSz
          refine takeL (i := 0) (v := ?_) rfl (by kernel_rfl) (by kernel_rfl) (by kernel_rfl) (fun _ _ _ h => h) (Or.inl ⟨by rfl, ?_⟩) hHeld ?_
          rotate_left
          focus (intro wq hSw; clear hSw; go_simp; try with_reducible rfl)
          try simp only [Act.put, List.setIfInBounds_toArray, List.set_cons_zero, List.set_cons_succ]
          refine takeL (i := 3) (v := ?_) rfl (by kernel_rfl) (by kernel_rfl) (by kernel_rfl) (fun _ _ _ h => h) (Or.inl ⟨by rfl, ?_⟩) hHeld ?_
          rotate_left
          focus (intro wq hSw; clear hSw; go_simp; try with_reducible rfl)
          try simp only [Act.put, List.setIfInBounds_toArray, List.set_cons_zero, List.set_cons_succ]
          refine takeL (i := 4) (v := ?_) rfl (by kernel_rfl) (by kernel_rfl) (by kernel_rfl) (fun _ _ _ h => h) (Or.inl ⟨by rfl, ?_⟩) hHeld ?_
          rotate_left
          focus (intro wq hSw; clear hSw; go_simp; try with_reducible rfl)
          try simp only [Act.put, List.setIfInBounds_toArray, List.set_cons_zero, List.set_cons_succ]
          refine wpAnyH_ready (rs := [1]) (by kernel_rfl) (by simp) ?_
          refine consL rfl (fun K hK => ?_) AllReadyH.nil
          go_simp
          refine (sum_made wx _ d kind _ wv4 (H5.out.1.later hHeld) (by have := writes_wait kind HH.out.1 (pts ls (j + 1)); omega) (HK.out.below HB.out)).mono ?_
          rintro e w5 ⟨A5, n5, c5, rfl, hO5, hb5⟩
          have hr5 := hO5.rd
          rw [writes_rof kind HH.out.1 (pts ls (j + 1)) (by have := pts_len ls (j + 1); omega)] at hr5
          have hb5' : Old wr w5 := hHeld.trans hb5
          clear hb5 hO5
          generalize hma : rof kind (pts ls (j + 1)).flatten = ma at *
          have Hma := Lib.hid (And.intro hma hr5.1)
          clear hma
          refine hK.out _ _ hb5' (fun hHeld => ?_)
          clear hK K
          try simp only [Act.put, List.setIfInBounds_toArray, List.set_cons_zero, List.set_cons_succ]
          refine wpAnyH_old (w1 := w5) hb5' (fun hHeld => ?_) (Old.refl _)
          refine takeL (i := 2) (v := ?_) rfl (by kernel_rfl) (by kernel_rfl) (by kernel_rfl) (fun _ _ _ h => h) (Or.inl ⟨by rfl, ?_⟩) hHeld ?_
          rotate_left
          focus (intro wq hSw; have hRun := hr5.str_below hSw; clear hSw; go_simp; try with_reducible rfl)
          try simp only [Act.put, List.setIfInBounds_toArray, List.set_cons_zero, List.set_cons_succ]
          refine wpAnyH_ready (rs := [5]) (by kernel_rfl) (by simp) ?_
          refine consL rfl (fun K hK => ?_) AllReadyH.nil
          go_simp
          refine (rof_res_all kind Aa na ca (pts ls (j + 1)).flatten _ (H5.out.2.1.rd.below hb5') (by have := pts_len ls (j + 1); omega)).mono ?_
          rintro e w6 ⟨A6, n6, c6, rfl, hO6, hb6⟩
          have hr6 := hO6.rd
          rw [Hma.out.1] at hr6
          have hb56 : Old w5 w6 := hb6
          clear hb6 hO6
          refine hK.out _ _ hb56 (fun hHeld => ?_)
          clear hK K
          try simp only [Act.put, List.setIfInBounds_toArray, List.set_cons_zero, List.set_cons_succ]
          refine wpAnyH_old (w1 := w6) hb56 (fun hHeld => ?_) (Old.refl _)
          refine takeL (i := 6) (v := ?_) rfl (by kernel_rfl) (by kernel_rfl) (by kernel_rfl) (fun _ _ _ h => h) (Or.inl ⟨by rfl, ?_⟩) hHeld ?_
          rotate_left
          focus (intro wq hSw; have hRun := hr6.str_below hSw; clear hSw; go_simp; try with_reducible rfl)
          try simp only [Act.put, List.setIfInBounds_toArray, List.set_cons_zero, List.set_cons_succ]
          refine takeL (i := 7) (v := ?_) rfl (by kernel_rfl) (by kernel_rfl) (by kernel_rfl) (fun _ _ _ h => h) (Or.inl ⟨by rfl, ?_⟩) hHeld ?_
          rotate_left
          focus (intro wq hSw; clear hSw; go_simp; try with_reducible rfl)
          try simp only [Act.put, List.setIfInBounds_toArray, List.set_cons_zero, List.set_cons_succ]
          refine wpAnyH_done (by kernel_rfl) ?_ _
          refine NoPanic.normal ?_
          simp only [Exit.then]
          have h56 : Old wr w6 := Old.trans hb5' hb56
          have H6 := Lib.hid (And.intro (H5.out.1.later h56) (And.intro (H5.out.2.1.below h56) H5.out.2.2))
          clear hr5 hr6 hb5' hb56 h56
          go_wp2_with fail
          have hj2 : (j : Int) < 12 := hi2
          exact ⟨⟨j + 1, na, ca, Aa, wv4, by omega, by omega, by go_num, rfl, H6.out.2.1, H6.out.1, H6.out.2.2⟩, by simp [intOf]; omega⟩
    · have hlt' : ((j : Int) < m ∧ ¬ ((j : Int) < 12)) ∨ ¬ ((j : Int) < m) := by omega
      clear hlt
      clear hj hjm hM0 hM00
      rcases hlt' with ⟨hx1, hx2⟩ | hx1
      all_goals
        go_wp2_with (go_at_call 21; refine (copy_made wx _ d kind _ wv H1.out.2.1 (by have := writes_wait kind HH.out.1 (pts ls j); omega) (HK.out.below HB.out)).mono ?_; rintro e w2 ⟨d', wv', rfl, hdd, hM2, hf2, hb2⟩; have H2 := Lib.hid (And.intro hdd (And.intro hM2 (And.intro hf2 hb2))); clear hdd hM2 hf2 hb2)
        have hSh : Calls Tryd.prog 12 #[.slice A2 m2 c2, .int .i64 50] w2 fun e w' => e = .returned (.slice A2 (min m2 50) c2) ∧ w2 = w' := short_any A2 m2 c2 50 l2 w2 (HH.out.2.2.below (Old.trans HB.out H2.out.2.1.below)) (by omega)
        have HSh := Lib.hid hSh
        clear hSh
        refine HSh.out.mono ?_
        rintro e w' ⟨rfl, rfl⟩
        go_wp2_with fail
        have hlt2 := HH.out.2.2.lt
        have hWr := write_made2 wx w2 d' kind _ wv' A2 (min m2 50) c2 (l2.take 50) H2.out.2.1 ((HH.out.2.2.below (Old.trans HB.out H2.out.2.1.below)).short) (by have := writes_wait kind HH.out.1 (pts ls j); have := List.length_take_le 50 l2; omega) (HK.out.below HB.out) (fun ad had => by
          have h1 := hlt2 ad had
          have h2 := HB.out.size
          refine ⟨fun e => by have := H2.out.2.1.lt; omega, fun e => by have := H2.out.2.1.fresh _ e; omega⟩)
        rw [← writes_snoc] at hWr
        refine hWr.mono ?_
        rintro e w3 ⟨rfl, wv3, hM3, hT3, hf3⟩
        have hd0 := H1.out.2.1.at_.blk.lt
        have hM3' : Made wx w3 d kind (writes kind (pts ls j)) wv := (H1.out.2.1.later H2.out.2.2.2).turn hT3 (fun hm => by
            have h1 := H2.out.1
            rcases List.mem_cons.1 hm with rfl | hm
            · omega
            · have := H2.out.2.2.1 d (by simpa using hm); omega) (fun g hg hm => by
            have h1 := H2.out.1
            have h2 := (H1.out.2.1.at_.own.lt hg).2
            rcases List.mem_cons.1 hm with rfl | hm
            · omega
            · have := H2.out.2.2.1 g (by simpa using hm); omega) (fun t hm => by
            rcases List.mem_cons.1 hm with rfl | hm
            · exact H2.out.2.1.lt
            · exact H2.out.2.1.fresh t (by simpa using hm))
        have hO3 : Own w3 wx.heap.size (.slice A1 n1 c1) (pts ls j).flatten := (H1.out.1.below H2.out.2.2.2).turn hT3 (fun g hg hm => by
            have h1 := H2.out.1
            have h2 := (H1.out.1.lt hg).2
            rcases List.mem_cons.1 hm with rfl | hm
            · omega
            · have := H2.out.2.2.1 g (by simpa using hm); omega)
        have hr3 : Rd w3 A2 m2 c2 l2 := HH.out.2.2.below (Old.trans HB.out hM3.below)
        have hne3 : ∀ g, (Value.slice A1 n1 c1).ownBlock = some g → g ≠ d ∧ g ≠ d' ∧ wv.ownBlock ≠ some g ∧ wv3.ownBlock ≠ some g ∧ wx.heap.size ≤ g := by
          intro g hg
          have h2 := (H1.out.1.lt hg).2
          have h1 := H2.out.1
          have h4 := H2.out.2.2.2.size
          refine ⟨fun e => ?_, fun e => by omega, fun e => H1.out.2.2.1 g e hg, fun e => by have := hf3 g e; omega, (H1.out.1.lt hg).1⟩
          subst e
          exact H1.out.1.ne H1.out.2.1.at_.blk (by decide) hg
        have hn2 : ∀ ad, A2 = some ad → ad.block ∉ (Value.slice A1 n1 c1).ownBlock.toList := by
          intro ad had hm
          have h1 := hlt2 ad had
          have h2 := HB.out.size
          have h3 := (H1.out.1.lt (show _ = some ad.block by simpa using hm)).1
          omega
        have hlj := H1.out.2.2.2.1
        obtain ⟨ma, hma⟩ : ∃ ma, rof kind (pts ls j).flatten = ma := ⟨_, rfl⟩
        obtain ⟨mb, hmb⟩ : ∃ mb, rof kind ((pts ls j).flatten ++ l2.take 50) = mb := ⟨_, rfl⟩
        have hflat : (pts ls j ++ [l2.take 50]).flatten = (pts ls j).flatten ++ l2.take 50 := by simp
        have hta := List.length_take_le 50 l2
        have hpl := pts_len ls j
        have hs1 := writes_rof kind HH.out.1 (pts ls j) (by omega)
        have hs2 := writes_rof kind HH.out.1 (pts ls j ++ [l2.take 50]) (by rw [hflat, List.length_append]; omega)
        rw [hflat, hmb] at hs2
        rw [hma] at hs1
        have hw1 := writes_wait kind HH.out.1 (pts ls j)
        have hw2 := writes_wait kind HH.out.1 (pts ls j ++ [l2.take 50])
        have H3 := Lib.hid (And.intro hM3' (And.intro hM3 (And.intro hO3 (And.intro hr3 hne3))))
        have HL := Lib.hid (And.intro hma (And.intro hmb (And.intro hs1 (And.intro hs2 (And.intro hw1 (And.intro hw2 (And.intro hpl (And.intro hta (And.intro hlj hn2)))))))))
        clear hM3 hT3 hf3 hM3' hO3 hr3 hne3 hWr hlt2 hd0 hma hmb hflat hta hpl hs1 hs2 hw1 hw2 hlj hn2
        go_wp2_with fail
        refine region_tow H3.out.2.2.1 (by kernel_rfl) (fun wd hHeld hSz => ?_)
        have HSz := Lib.hid hSz
        clear hSz
        refine takeL (i := 0) (v := ?_) rfl (by kernel_rfl) (by kernel_rfl) (by kernel_rfl) (fun _ _ _ h => h) (Or.inl ⟨by rfl, ?_⟩) hHeld ?_
        rotate_left
        focus (intro wq hSw; clear hSw; go_simp; try with_reducible rfl)
        try simp only [Act.put, List.setIfInBounds_toArray, List.set_cons_zero, List.set_cons_succ]
        refine takeL (i := 1) (v := ?_) rfl (by kernel_rfl) (by kernel_rfl) (by kernel_rfl) (fun _ _ _ h => h) (Or.inl ⟨by rfl, ?_⟩) hHeld ?_
        rotate_left
        focus (intro wq hSw; clear hSw; go_simp; try with_reducible rfl)
        try simp only [Act.put, List.setIfInBounds_toArray, List.set_cons_zero, List.set_cons_succ]
        refine takeL (i := 2) (v := ?_) rfl (by kernel_rfl) (by kernel_rfl) (by kernel_rfl) (fun _ _ _ h => h) (Or.inl ⟨by rfl, ?_⟩) hHeld ?_
        rotate_left
        focus (intro wq hSw; clear hSw; go_simp; try with_reducible rfl)
        try simp only [Act.put, List.setIfInBounds_toArray, List.set_cons_zero, List.set_cons_succ]
        refine takeL (i := 5) (v := ?_) rfl (by kernel_rfl) (by kernel_rfl) (by kernel_rfl) (fun _ _ _ h => h) (Or.inl ⟨by rfl, ?_⟩) hHeld ?_
        rotate_left
        focus (intro wq hSw; clear hSw; go_simp; try with_reducible rfl)
        try simp only [Act.put, List.setIfInBounds_toArray, List.set_cons_zero, List.set_cons_succ]
        refine takeL (i := 6) (v := ?_) rfl (by kernel_rfl) (by kernel_rfl) (by kernel_rfl) (fun _ _ _ h => h) (Or.inl ⟨by rfl, ?_⟩) hHeld ?_
        rotate_left
        focus (intro wq hSw; clear hSw; go_simp; try with_reducible rfl)
        try simp only [Act.put, List.setIfInBounds_toArray, List.set_cons_zero, List.set_cons_succ]
        refine wpAnyH_ready (rs := [3]) (by kernel_rfl) (by simp) ?_
        refine consL rfl (fun K hK => ?_) AllReadyH.nil
        go_simp
        refine (sum_made wx _ d kind _ wv (H3.out.1.turn hHeld.1 (fun hm => (H3.out.2.2.2.2 d (by simpa using hm)).1 rfl) (fun g hg hm => (H3.out.2.2.2.2 g (by simpa using hm)).2.2.1 hg) (fun x hx => (H3.out.2.2.2.2 x (by simpa using hx)).2.2.2.2)) (by have := HL.out.2.2.2.2.1; omega) (HK.out.below HB.out)).mono ?_
        rintro e w5 ⟨A5, n5, c5, rfl, hO5, hb5⟩
        have hn5 : ∀ ad, A5 = some ad → ad.block ∉ (Value.slice A1 n1 c1).ownBlock.toList := fun ad had => Tow.notin hHeld.2 (hO5.addr_ge ad had)
        have hr5 := hO5.rd
        rw [HL.out.2.2.1] at hr5
        have hb5' : Tow wx.heap.size (.slice A1 n1 c1) (pts ls j).flatten w3 w5 := hHeld.old hb5
        clear hb5 hO5
        refine hK.out _ _ hb5' (fun hHeld => ?_)
        clear hK K
        try simp only [Act.put, List.setIfInBounds_toArray, List.set_cons_zero, List.set_cons_succ]
        refine wpAnyH_tow (w1 := w5) hb5' (fun hHeld => ?_) (Tow.refl hb5'.2)
        refine takeL (i := 4) (v := ?_) rfl (by kernel_rfl) (by kernel_rfl) (by kernel_rfl) (fun _ _ _ h => h) (Or.inl ⟨by rfl, ?_⟩) hHeld ?_
        rotate_left
        focus (intro wq hSw; have hRun := hr5.str_tow hn5 hSw; clear hSw; go_simp; try with_reducible rfl)
        try simp only [Act.put, List.setIfInBounds_toArray, List.set_cons_zero, List.set_cons_succ]
        refine wpAnyH_ready (rs := [7]) (by kernel_rfl) (by simp) ?_
        refine consL rfl (fun K hK => ?_) AllReadyH.nil
        go_simp
        refine (rof_res_all kind A1 n1 c1 (pts ls j).flatten _ hHeld.2.rd (by have := HL.out.2.2.2.2.2.2.1; have := HL.out.2.2.2.2.2.2.2.2.1; omega)).mono ?_
        rintro e w6 ⟨A6, n6, c6, rfl, hO6, hb6⟩
        have hn6 : ∀ ad, A6 = some ad → ad.block ∉ (Value.slice A1 n1 c1).ownBlock.toList := fun ad had => Tow.notin hHeld.2 (hO6.addr_ge ad had)
        have hr6 := hO6.rd
        rw [HL.out.1] at hr6
        have hb6' : Tow wx.heap.size (.slice A1 n1 c1) (pts ls j).flatten w5 w6 := hHeld.old hb6
        clear hb6 hO6
        refine hK.out _ _ hb6' (fun hHeld => ?_)
        clear hK K
        try simp only [Act.put, List.setIfInBounds_toArray, List.set_cons_zero, List.set_cons_succ]
        refine wpAnyH_tow (w1 := w6) hb6' (fun hHeld => ?_) (Tow.refl hb6'.2)
        refine takeL (i := 8) (v := ?_) rfl (by kernel_rfl) (by kernel_rfl) (by kernel_rfl) (fun _ _ _ h => h) (Or.inl ⟨by rfl, ?_⟩) hHeld ?_
        rotate_left
        focus (intro wq hSw; have hRun := hr6.str_tow hn6 hSw; clear hSw; go_simp; try with_reducible rfl)
        try simp only [Act.put, List.setIfInBounds_toArray, List.set_cons_zero, List.set_cons_succ]
        refine takeL (i := 9) (v := ?_) rfl (by kernel_rfl) (by kernel_rfl) (by kernel_rfl) (fun _ _ _ h => h) (Or.inl ⟨by rfl, ?_⟩) hHeld ?_
        rotate_left
        focus (intro wq hSw; clear hSw; go_simp; try with_reducible rfl)
        try simp only [Act.put, List.setIfInBounds_toArray, List.set_cons_zero, List.set_cons_succ]
        refine takeL (i := 10) (v := ?_) rfl (by kernel_rfl) (by kernel_rfl) (by kernel_rfl) (fun _ _ _ h => h) (Or.inl ⟨by rfl, ?_⟩) hHeld ?_
        rotate_left
        focus (intro wq hSw; clear hSw; go_simp; try with_reducible rfl)
        try simp only [Act.put, List.setIfInBounds_toArray, List.set_cons_zero, List.set_cons_succ]
        refine takeL (i := 11) (v := ?_) rfl (by kernel_rfl) (by kernel_rfl) (by kernel_rfl) (fun _ _ _ h => h) (Or.inl ⟨by rfl, ?_⟩) hHeld ?_
        rotate_left
        focus (intro wq hSw; clear hSw; go_simp; try with_reducible rfl)
        try simp only [Act.put, List.setIfInBounds_toArray, List.set_cons_zero, List.set_cons_succ]
        refine takeL (i := 12) (v := ?_) rfl (by kernel_rfl) (by kernel_rfl) (by kernel_rfl) (fun _ _ _ h => h) (Or.inl ⟨by rfl, ?_⟩) hHeld ?_
        rotate_left
        focus (intro wq hSw; clear hSw; go_simp; try with_reducible rfl)
        try simp only [Act.put, List.setIfInBounds_toArray, List.set_cons_zero, List.set_cons_succ]
        refine takeL (i := 15) (v := ?_) rfl (by kernel_rfl) (by kernel_rfl) (by kernel_rfl) (fun _ _ _ h => h) (Or.inl ⟨by rfl, ?_⟩) hHeld ?_
        rotate_left
        focus (intro wq hSw; clear hSw; go_simp; try with_reducible rfl)
        try simp only [Act.put, List.setIfInBounds_toArray, List.set_cons_zero, List.set_cons_succ]
        refine takeL (i := 16) (v := ?_) rfl (by kernel_rfl) (by kernel_rfl) (by kernel_rfl) (fun _ _ _ h => h) (Or.inl ⟨by rfl, ?_⟩) hHeld ?_
        rotate_left
        focus (intro wq hSw; clear hSw; go_simp; try with_reducible rfl)
        try simp only [Act.put, List.setIfInBounds_toArray, List.set_cons_zero, List.set_cons_succ]
        refine takeL (i := 17) (v := ?_) rfl (by kernel_rfl) (by kernel_rfl) (by kernel_rfl) (fun _ _ _ h => h) (Or.inl ⟨by rfl, ?_⟩) hHeld ?_
        rotate_left
        focus (intro wq hSw; clear hSw; go_simp; try with_reducible rfl)
        try simp only [Act.put, List.setIfInBounds_toArray, List.set_cons_zero, List.set_cons_succ]
        refine wpAnyH_ready (rs := [13]) (by kernel_rfl) (by simp) ?_
        refine consL rfl (fun K hK => ?_) AllReadyH.nil
        go_simp
        refine (sum_made wx _ d' kind _ wv3 (H3.out.2.1.turn ((hb5'.trans hb6').trans hHeld).1 (fun hm => (H3.out.2.2.2.2 d' (by simpa using hm)).2.1 rfl) (fun g hg hm => (H3.out.2.2.2.2 g (by simpa using hm)).2.2.2.1 hg) (fun x hx => (H3.out.2.2.2.2 x (by simpa using hx)).2.2.2.2)) (by have := HL.out.2.2.2.2.2.1; omega) (HK.out.below HB.out)).mono ?_
        rintro e w7 ⟨A7, n7, c7, rfl, hO7, hb7⟩
        have hn7 : ∀ ad, A7 = some ad → ad.block ∉ (Value.slice A1 n1 c1).ownBlock.toList := fun ad had => Tow.notin hHeld.2 (hO7.addr_ge ad had)
        have hr7 := hO7.rd
        rw [HL.out.2.2.2.1] at hr7
        have hb7' : Tow wx.heap.size (.slice A1 n1 c1) (pts ls j).flatten w6 w7 := hHeld.old hb7
        clear hb7 hO7
        refine hK.out _ _ hb7' (fun hHeld => ?_)
        clear hK K
        try simp only [Act.put, List.setIfInBounds_toArray, List.set_cons_zero, List.set_cons_succ]
        refine wpAnyH_tow (w1 := w7) hb7' (fun hHeld => ?_) (Tow.refl hb7'.2)
        refine takeL (i := 14) (v := ?_) rfl (by kernel_rfl) (by kernel_rfl) (by kernel_rfl) (fun _ _ _ h => h) (Or.inl ⟨by rfl, ?_⟩) hHeld ?_
        rotate_left
        focus (intro wq hSw; have hRun := hr7.str_tow hn7 hSw; clear hSw; go_simp; try with_reducible rfl)
        try simp only [Act.put, List.setIfInBounds_toArray, List.set_cons_zero, List.set_cons_succ]
        refine wpAnyH_ready (rs := [18]) (by kernel_rfl) (by simp) ?_
        refine consL rfl (fun K hK => ?_) AllReadyH.nil
        go_simp
        refine (short_any A2 m2 c2 50 l2 _ (H3.out.2.2.2.1.tow HL.out.2.2.2.2.2.2.2.2.2 (((hb5'.trans hb6').trans hb7').trans hHeld)) (by omega)).mono ?_
        rintro e w' ⟨rfl, rfl⟩
        refine hK.out _ _ (by repeat (first | exact hHeld | exact Tow.refl (by assumption) | assumption | refine Tow.drew ?_ | refine Tow.drewN ?_ _ | refine Tow.alloc ?_ _)) (fun hHeld => ?_)
        clear hK K
        try simp only [Act.put, List.setIfInBounds_toArray, List.set_cons_zero, List.set_cons_succ]
        refine wpAnyH_ready (rs := [19]) (by kernel_rfl) (by simp) ?_
        refine consL rfl (fun K hK => ?_) AllReadyH.nil
        rw [if_pos (by rfl)]
        refine op_app_keep (.tmp 101) (.tmp 103) rfl wx.heap.size (.slice A1 n1 c1) (pts ls j).flatten rfl hHeld.2 A2 (min m2 50) c2 (l2.take 50) rfl ((H3.out.2.2.2.1.tow HL.out.2.2.2.2.2.2.2.2.2 (((hb5'.trans hb6').trans hb7').trans hHeld)).short) (by have := HL.out.2.2.2.2.2.2.1; have := HL.out.2.2.2.2.2.2.2.1; have := HL.out.2.2.2.2.2.2.2.2.1; omega) (Nat.le_trans H3.out.2.1.below.size (Nat.le_trans (((hb5'.trans hb6').trans hb7').trans hHeld).1.size (Nat.le_refl _))) ?_
        intro A8 n8 c8 w8 hO8 hOl hg8
        have hb8' : Tow wx.heap.size (.slice A1 n1 c1) (pts ls j).flatten w7 w8 := hHeld.app hg8 hOl
        refine hK.out _ _ hb8' (fun hHeld => ?_)
        clear hK K hg8 hOl
        try simp only [Act.put, List.setIfInBounds_toArray, List.set_cons_zero, List.set_cons_succ]
        refine wpAnyH_tow_old (w1 := w8) hb8' (fun hHeld => ?_) (Old.refl _)
        refine wpAnyH_ready (rs := [20]) (by kernel_rfl) (by simp) ?_
        refine consL rfl (fun K hK => ?_) AllReadyH.nil
        go_simp
        refine (rof_res_all kind A8 n8 c8 ((pts ls j).flatten ++ l2.take 50) _ (hO8.rd.below hHeld) (by have := HL.out.2.2.2.2.2.2.1; have := HL.out.2.2.2.2.2.2.2.1; have := HL.out.2.2.2.2.2.2.2.2.1; rw [List.length_append]; omega)).mono ?_
        rintro e w9 ⟨A9, n9, c9, rfl, hO9, hb9⟩
        have hr9 := hO9.rd
        rw [HL.out.2.1] at hr9
        have hb9' : Old w8 w9 := hHeld.trans hb9
        clear hb9 hO9
        refine hK.out _ _ hb9' (fun hHeld => ?_)
        clear hK K
        try simp only [Act.put, List.setIfInBounds_toArray, List.set_cons_zero, List.set_cons_succ]
        refine wpAnyH_old (w1 := w9) hb9' (fun hHeld => ?_) (Old.refl _)
        refine takeL (i := 21) (v := ?_) rfl (by kernel_rfl) (by kernel_rfl) (by kernel_rfl) (fun _ _ _ h => h) (Or.inl ⟨by rfl, ?_⟩) hHeld ?_
        rotate_left
        focus (intro wq hSw; have hRun := hr9.str_below hSw; clear hSw; go_simp; try with_reducible rfl)
        try simp only [Act.put, List.setIfInBounds_toArray, List.set_cons_zero, List.set_cons_succ]
        refine takeL (i := 22) (v := ?_) rfl (by kernel_rfl) (by kernel_rfl) (by kernel_rfl) (fun _ _ _ h => h) (Or.inl ⟨by rfl, ?_⟩) hHeld ?_
        rotate_left
        focus (intro wq hSw; clear hSw; go_simp; try with_reducible rfl)
        try simp only [Act.put, List.setIfInBounds_toArray, List.set_cons_zero, List.set_cons_succ]
        refine takeL (i := 23) (v := ?_) rfl (by kernel_rfl) (by kernel_rfl) (by kernel_rfl) (fun _ _ _ h => h) (Or.inl ⟨by rfl, ?_⟩) hHeld ?_
        rotate_left
        focus (intro wq hSw; clear hSw; go_simp; try with_reducible rfl)
        try simp only [Act.put, List.setIfInBounds_toArray, List.set_cons_zero, List.set_cons_succ]
        refine takeL (i := 24) (v := ?_) rfl (by kernel_rfl) (by kernel_rfl) (by kernel_rfl) (fun _ _ _ h => h) (Or.inl ⟨by rfl, ?_⟩) hHeld ?_
        rotate_left
        focus (intro wq hSw; clear hSw; go_simp; try with_reducible rfl)
        try simp only [Act.put, List.setIfInBounds_toArray, List.set_cons_zero, List.set_cons_succ]
        refine wpAnyH_done (by kernel_rfl) ?_ _
        have hfin : Old wx w9 := Old.trans (below_turn H3.out.2.1.below (((hb5'.trans hb6').trans hb7').trans hb8').1 (fun x hx => (H3.out.2.2.2.2 x (by simpa using hx)).2.2.2.2) H3.out.2.1.below.size) hb9'
        refine NoPanic.normal ?_
        simp only [Exit.then]
        go_wp2_with fail
        go_ret
        exact ⟨rfl, Old.trans HB.out hfin⟩
end Go.Proofs.YtdlipoklhojjkaaDoor
