/-
  blockfs: a model in memory; fresh, is.
  blockfs: keeper; a crash that keeps what it says.
  The law FsFormat, walked.
  The law FsFormat, walked.
  The law FsFormat, whatever the arguments; a slice of bools that came in.
-/
import Derived.Test.YtomngfihaohgdaaDoorFsC
import Derived.Test.YtomngfihaohgdaaDoorRowE
import Derived.Test.YtomngfihaohgdaaDoorOpenE
namespace Go.Proofs.YtomngfihaohgdaaDoor
set_option maxRecDepth 100000
open Go.RowKit

/-- A row of a model: the slice, its bytes. -/
structure RowV where
  A : Option Addr
  n : Nat
  c : Nat
  l : List UInt8
def Tryd.eM : ETy RowV where
  t := 40
  ts := 27
  sz := 1
  bytes := 24
  z := .slice none 0 0
  cells := fun r => [.slice r.A r.n r.c]
  len := fun _ => rfl
  one := fun x u hu => by simp at hu; subst hu; rfl
  pos := by decide
  zsz := rfl
  small := by decide
  und := Tryd.underlying27
  info := by kernel_rfl
def ModAt (w : World) (base : Nat) (v : Value) (rs : List RowV) : Prop := OwnE Tryd.eM w base v rs ∧ ∀ r ∈ rs, Own w base (.slice r.A r.n r.c) r.l
theorem ModAt.below {w w' : World} {base : Nat} {v : Value} {rs : List RowV} (h : ModAt w base v rs) (hb : Below w.heap.size w w') : ModAt w' base v rs := ⟨h.1.below hb, fun r hr => (h.2 r hr).below hb⟩
theorem ModAt.mono {w : World} {base base' : Nat} {v : Value} {rs : List RowV} (h : ModAt w base v rs) (hb : base' ≤ base) : ModAt w base' v rs := ⟨h.1.mono hb, fun r hr => (h.2 r hr).mono hb⟩
/-- What is of another type is beside a model. -/
theorem ModAt.turn {w w' : World} {base : Nat} {v : Value} {rs : List RowV} {S : List Nat} (h : ModAt w base v rs) (ht : Turn S w w') (hS : ∀ g ∈ S, ∃ t cs, Blk w g t cs ∧ t ≠ 5 ∧ t ≠ 40) : ModAt w' base v rs := by
  refine ⟨h.1.turn ht fun g hg hm => ?_, fun r hr => (h.2 r hr).turn ht fun g hg hm => ?_⟩
  · obtain ⟨t, cs, hb, _, h2⟩ := hS g hm
    exact h.1.ne hb h2 hg
  · obtain ⟨t, cs, hb, h1, _⟩ := hS g hm
    exact (h.2 r hr).ne hb h1 hg
theorem fresh_any (n : Nat) (hn : n ≤ 1000) (w : World) :
    Calls Tryd.prog 21 #[.int .i64 (n : Int)] w fun e w' => ∃ A m c rs, e = .returned (.slice A m c) ∧ ModAt w' w.heap.size (.slice A m c) rs ∧ rs.map (·.l) = List.replicate n (zs 256) ∧ Below w.heap.size w w' := by
  obtain ⟨X, hX⟩ : ∃ X, w.heap.size = X := ⟨_, rfl⟩
  rw [hX]
  go_enter Tryd.func21, Tryd.ntmps21
  go_wp2_with fail
  go_loopw [3, 4] (fun mv iv wr => ∃ (k : Nat) (A : Option Addr) (m c : Nat) (rs : List RowV), k ≤ n ∧ mv = .slice A m c ∧ iv = .int .i64 (k : Int) ∧ ModAt wr X (.slice A m c) rs ∧ rs.map (·.l) = List.replicate k (zs 256) ∧ Below X w wr) (fun _ iv _ => n - (intOf iv).toNat)
  case atStart => exact ⟨0, none, 0, 0, [], by omega, rfl, rfl, ⟨OwnE.nil _ _, by simp⟩, rfl, by rw [← hX]; exact Below.refl _ _⟩
  case round =>
    obtain ⟨k, A, m, c, rs, hk, rfl, rfl, hM, hrs, hb⟩ := hrel
    have hl : rs.length = k := by have := congrArg List.length hrs; simpa using this
    by_cases hlt : k < n
    · have hlti : (k : Int) < n := by omega
      have hltd : decide ((k : Int) < (n : Int)) = true := decide_eq_true hlti
      have hmk := Tryd.prog_make 256 (by decide) wr
      rw [show ((256 : Nat) : Int) = 256 from rfl] at hmk
      have hO := Own.made wr 256 (by decide)
      obtain ⟨w1, hw1⟩ : ∃ w1, wr.alloc (.cells (madeCells #[.int .u8 0] 256) 5) = w1 := ⟨_, rfl⟩
      have hO1 : Old wr w1 := by rw [← hw1]; exact (Old.refl wr).alloc _
      have hXw : X ≤ wr.heap.size := by rw [← hX]; exact hb.size
      rw [hw1] at hO hmk
      obtain ⟨g, hg⟩ : ∃ g, wr.heap.size = g := ⟨_, rfl⟩
      rw [hg] at hO hmk
      have hs1 : w1.heap.size = g + 1 := by rw [← hw1, ← hg]; simp
      have H1 := Lib.hid (And.intro (hM.below hO1) (And.intro (hO.mono (show X ≤ g by omega)) (And.intro (hb.trans (hO1.mono hXw)) (And.intro hrs (And.intro hl (show X ≤ w1.heap.size by omega))))))
      have hbn : Blk (w1.alloc (.cells #[.slice (some ⟨g, 0, none⟩) 256 256] 40)) (g + 1) 40 #[.slice (some ⟨g, 0, none⟩) 256 256] := by rw [← hs1]; exact Blk.new _ _ _
      have HBn := Lib.hid hbn
      clear hM hO hb hrs hl hO1 hbn
      go_wp2_with (at_builtin; go_loud (refine wp_appE Tryd.eM (.tmp 10) (.tmp 12) X (.slice A m c) rs (H1.out.1.1.below ((Old.refl w1).alloc _)) (by simp; have := H1.out.2.2.2.2.2; omega) (some ⟨g + 1, 0, none⟩) 1 1 [⟨some ⟨g, 0, none⟩, 256, 256, zs 256⟩] (Blk.rdC Tryd.eM HBn.out rfl) (fun h => by cases h) (by simp; have := H1.out.2.2.2.2.1; omega) rfl rfl rfl rfl ?_); intro A5 n5 c5 w5 hG; have H5 := Lib.hid hG; clear hG)
      go_roundw
      case measure => simp [intOf]; omega
      have hown : ∀ r : RowV, Own w1 X (.slice r.A r.n r.c) r.l → Own w5 X (.slice r.A r.n r.c) r.l := fun r hr => by
        have hr2 := hr.below ((Old.refl w1).alloc (.cells #[.slice (some ⟨g, 0, none⟩) 256 256] 40))
        refine hr2.keep fun g' hg' => ?_
        refine H5.out.grown.block g' (hr2.lt hg').2 (fun e => ?_)
        obtain ⟨cs, hbk⟩ := OwnE.blk (H1.out.1.1.below ((Old.refl w1).alloc (.cells #[.slice (some ⟨g, 0, none⟩) 256 256] 40))) (g := g') e.symm
        exact hr2.ne hbk (by decide) hg'
      refine ⟨k + 1, A5, n5, c5, rs ++ [⟨some ⟨g, 0, none⟩, 256, 256, zs 256⟩], by omega, rfl, by simp, ⟨H5.out.own, fun r hr => ?_⟩, ?_, ?_⟩
      · rcases List.mem_append.1 hr with hr | hr
        · exact hown r (H1.out.1.2 r hr)
        · simp at hr; subst hr; exact hown _ H1.out.2.1
      · rw [List.map_append, H1.out.2.2.2.1, List.replicate_succ']; rfl
      · exact H1.out.2.2.1.trans ((((Old.refl w1).alloc _).mono H1.out.2.2.2.2.2).trans H5.out.below)
    · obtain rfl : k = n := by omega
      have hlti : ¬ (k : Int) < k := by omega
      have hltd : decide ((k : Int) < (k : Int)) = false := decide_eq_false hlti
      have H1 := Lib.hid (And.intro hM (And.intro hrs hb))
      clear hM hrs hb hl
      go_wp2_with fail
      go_ret
      exact ⟨_, _, _, rfl, rs, H1.out.1, H1.out.2.1, H1.out.2.2⟩
/-- A volume is a model, plainly. -/
def isM (s : Dsk) (c : Nat) (ls : List (List UInt8)) : Bool := decide (∀ i, i < ls.length → s.rd (8 + c % 2 * ls.length + i) = (ls[i]?).getD [])
theorem is_any (v d L c : Nat) (br : Bool) (s : Dsk) (A : Option Addr) (n cp base : Nat) (rs : List RowV) (w : World) (hV : VolB w v d rs.length c br) (hD : DkAt w d L s) (hM : ModAt w base (.slice A n cp) rs)
    (hl : rs.length ≤ 1000) (hc : c ≤ 100000) (hn : 8 + c % 2 * rs.length + rs.length ≤ s.n) :
    Calls Tryd.prog 12 #[.pointer (some ⟨v, 0, none⟩), .slice A n cp] w fun e w' => e = .returned (.bool (isM s c (rs.map (·.l)))) ∧ Old w w' := by
  obtain rfl : n = rs.length := hM.1.len
  obtain ⟨N, hN⟩ : ∃ N, rs.length = N := ⟨_, rfl⟩
  obtain ⟨q, hq⟩ : ∃ q, isM s c (rs.map (·.l)) = q := ⟨_, rfl⟩
  rw [hN] at hV hM hl hn ⊢
  rw [hq]
  unfold isM at hq
  rw [List.length_map, hN] at hq
  have hb := blocks_any v d N c br w hV
  have r1 := volread_out v d N c br w hV (-1) (.inl (by omega))
  have r2 := volread_out v d N c br w hV N (.inr (by omega))
  have kn := neVol
  have H := Lib.hid (And.intro hV (And.intro hD (And.intro hM (And.intro hn (And.intro hN hq)))))
  have tN : ((N : Int) != (N : Int)) = false := by simp
  clear hV hD hM hn hN hq
  go_enter Tryd.func12, Tryd.ntmps12
  go_wp2_with fail
  refine hb.mono ?_
  rintro e w' ⟨rfl, rfl⟩
  clear hb
  go_wp2_with fail
  refine r1.mono ?_
  rintro e w' ⟨rfl, rfl⟩
  clear r1
  go_wp2_with fail
  refine r2.mono ?_
  rintro e w' ⟨rfl, rfl⟩
  clear r2 kn
  go_wp2_with fail
  go_loopw [5] (fun iv wr => ∃ k : Nat, k ≤ N ∧ iv = .int .i64 (k : Int) ∧ Old w wr ∧ ∀ i, i < k → s.rd (8 + c % 2 * N + i) = ((rs.map (·.l))[i]?).getD []) (fun iv _ => N - (intOf iv).toNat)
  case atStart => exact ⟨0, by omega, rfl, Old.refl _, by omega⟩
  case round =>
    obtain ⟨k, hk, rfl, hO, hA⟩ := hrel
    have HR := Lib.hid (And.intro hO hA)
    clear hO hA
    by_cases hlt : k < N
    · have hlti : (k : Int) < N := by omega
      have hltd : decide ((k : Int) < (N : Int)) = true := decide_eq_true hlti
      obtain ⟨r, hr⟩ : ∃ r, rs[k]? = some r := ⟨_, List.getElem?_eq_getElem (by rw [H.out.2.2.2.2.1]; exact hlt)⟩
      have hMr := H.out.2.2.1.below HR.out.1
      obtain ⟨g, off, rfl, hg, hcell⟩ := hMr.1.rd.at_ hr
      have hc0 := hcell 0 (by decide)
      have hOr := hMr.2 r (List.mem_of_getElem? hr)
      have hrd := volread_any v d L N c br s wr (Blk.below H.out.1 HR.out.1) (H.out.2.1.below HR.out.1) hl hc H.out.2.2.2.1 k hlt
      have hml : ((rs.map (·.l))[k]?).getD [] = r.l := by rw [List.getElem?_map, hr]; rfl
      obtain ⟨A2, n2, c2, l2⟩ := r
      simp only at hOr hml
      obtain ⟨l1, hl1⟩ : ∃ l1, s.rd (8 + c % 2 * N + k) = l1 := ⟨_, rfl⟩
      rw [hl1] at hrd
      have hc0' : wr.cell? ⟨g, off + k, none⟩ = some (.slice A2 n2 c2) := by
        have h1 : Tryd.eM.sz = 1 := rfl
        rw [h1, Nat.mul_one, Nat.add_zero] at hc0
        exact hc0
      have HX := Lib.hid (And.intro hc0' (And.intro hOr (And.intro hrd (And.intro hml hl1))))
      clear hMr hg hcell hc0 hc0' hOr hrd hml hl1 hr
      go_wp2_with fail
      refine region_old (by kernel_rfl) (fun wd hHeld hSz => ?_)
      have HSz := Lib.hid hSz
      clear hSz
      refine takeL (i := 0) (v := ?_) rfl (by kernel_rfl) (by kernel_rfl) (by kernel_rfl) (fun _ _ _ h => h) (Or.inl ⟨by rfl, ?_⟩) hHeld ?_
      rotate_left
      focus (intro wq hSw; clear hSw; go_simp; try with_reducible rfl)
      try simp only [Act.put, List.setIfInBounds_toArray, List.set_cons_zero, List.set_cons_succ]
      refine takeL (i := 1) (v := ?_) rfl (by kernel_rfl) (by kernel_rfl) (by kernel_rfl) (fun _ _ _ h => h) (Or.inl ⟨by rfl, ?_⟩) hHeld ?_
      rotate_left
      focus (intro wq hSw; clear hSw; go_simp; try with_reducible rfl)
      try simp only [Act.put, List.setIfInBounds_toArray, List.set_cons_zero, List.set_cons_succ]
      refine takeL (i := 4) (v := ?_) rfl (by kernel_rfl) (by kernel_rfl) (by kernel_rfl) (fun _ _ _ h => h) (Or.inl ⟨by rfl, ?_⟩) hHeld ?_
      rotate_left
      focus (intro wq hSw; clear hSw; go_simp; try with_reducible rfl)
      try simp only [Act.put, List.setIfInBounds_toArray, List.set_cons_zero, List.set_cons_succ]
      refine takeL (i := 5) (v := ?_) rfl (by kernel_rfl) (by kernel_rfl) (by kernel_rfl) (fun _ _ _ h => h) (Or.inl ⟨by rfl, ?_⟩) hHeld ?_
      rotate_left
      focus (intro wq hSw; clear hSw; go_simp; try with_reducible rfl)
      try simp only [Act.put, List.setIfInBounds_toArray, List.set_cons_zero, List.set_cons_succ]
      refine takeL (i := 6) (v := ?_) rfl (by kernel_rfl) (by kernel_rfl) (by kernel_rfl) (fun _ _ _ h => h) (Or.inl ⟨by rfl, ?_⟩) hHeld ?_
      rotate_left
      focus (intro wq hSw; clear hSw; go_simp; try with_reducible rfl)
      try simp only [Act.put, List.setIfInBounds_toArray, List.set_cons_zero, List.set_cons_succ]
      refine takeL (i := 7) (v := ?_) rfl (by kernel_rfl) (by kernel_rfl) (by kernel_rfl) (fun _ _ _ h => h) (Or.inl ⟨by rfl, ?_⟩) hHeld ?_
      rotate_left
      focus (intro wq hSw; have z0 := cell_old hSw HX.out.1; clear hSw; go_simp; try with_reducible rfl)
      try simp only [Act.put, List.setIfInBounds_toArray, List.set_cons_zero, List.set_cons_succ]
      refine takeL (i := 8) (v := ?_) rfl (by kernel_rfl) (by kernel_rfl) (by kernel_rfl) (fun _ _ _ h => h) (Or.inl ⟨by rfl, ?_⟩) hHeld ?_
      rotate_left
      focus (intro wq hSw; have hRun := (HX.out.2.1.below hSw).rd.str; clear hSw; go_simp; try with_reducible rfl)
      try simp only [Act.put, List.setIfInBounds_toArray, List.set_cons_zero, List.set_cons_succ]
      refine wpAnyH_ready (rs := [2]) (by kernel_rfl) (by simp) ?_
      refine consL rfl (fun K hK => ?_) AllReadyH.nil
      go_simp
      refine (volread_any v d L N c br s wd (Blk.below H.out.1 (Old.trans HR.out.1 hHeld)) (H.out.2.1.below (Old.trans HR.out.1 hHeld)) hl hc H.out.2.2.2.1 k hlt).mono ?_
      rintro e w2 ⟨g2, c2', rfl, hO2, hl2, hb2⟩
      rw [HX.out.2.2.2.2] at hO2 hl2
      have hb2' := Old.trans hHeld hb2
      clear hHeld
      refine hK.out _ _ hb2' (fun hHeld => ?_)
      clear hK K
      try simp only [Act.put, List.setIfInBounds_toArray, List.set_cons_zero, List.set_cons_succ]
      refine wpAnyH_old (w1 := w2) hb2' (fun hHeld => ?_) (Old.refl _)
      refine takeL (i := 3) (v := ?_) rfl (by kernel_rfl) (by kernel_rfl) (by kernel_rfl) (fun _ _ _ h => h) (Or.inl ⟨by rfl, ?_⟩) hHeld ?_
      rotate_left
      focus (intro wq hSw; have hRun := hO2.rd.str_below hSw; clear hSw; go_simp; try with_reducible rfl)
      try simp only [Act.put, List.setIfInBounds_toArray, List.set_cons_zero, List.set_cons_succ]
      refine takeL (i := 9) (v := ?_) rfl (by kernel_rfl) (by kernel_rfl) (by kernel_rfl) (fun _ _ _ h => h) (Or.inl ⟨by rfl, ?_⟩) hHeld ?_
      rotate_left
      focus (intro wq hSw; clear hSw; go_simp; try with_reducible rfl)
      try simp only [Act.put, List.setIfInBounds_toArray, List.set_cons_zero, List.set_cons_succ]
      refine wpAnyH_done (by kernel_rfl) ?_ _
      refine NoPanic.normal ?_
      try simp only [Exit.then]
      have hOh := Old.trans hb2' hHeld
      clear hHeld
      by_cases he : l1 = l2
      · subst he
        simp only [beq_self_eq_true, Bool.not_true]
        go_wp2_with fail
        go_roundw
        case measure => simp [intOf]; omega
        refine ⟨k + 1, by omega, by simp, Old.trans HR.out.1 hOh, fun i hi => ?_⟩
        by_cases hik : i = k
        · subst hik; rw [HX.out.2.2.2.2, HX.out.2.2.2.1]
        · exact HR.out.2 i (by omega)
      · have hbe : (l1 == l2) = false := by simpa using he
        have hbn : (l1 != l2) = true := by simpa using he
        simp only [hbe, Bool.not_false]
        go_wp2_with fail
        go_ret
        have hq : q = false := by
          rw [← H.out.2.2.2.2.2]
          refine decide_eq_false (fun hall => he ?_)
          have := hall k hlt
          rw [HX.out.2.2.2.2, HX.out.2.2.2.1] at this
          exact this
        exact ⟨by first | rfl | (rw [hq]; rfl), Old.trans HR.out.1 hOh⟩
    · obtain rfl : k = N := by omega
      have hlti : ¬ (k : Int) < k := by omega
      have hltd : decide ((k : Int) < (k : Int)) = false := decide_eq_false hlti
      have hq : q = true := by
        rw [← H.out.2.2.2.2.2]
        exact decide_eq_true HR.out.2
      go_wp2_with fail
      go_ret
      exact ⟨by first | rfl | (rw [hq]; rfl), HR.out.1⟩
end Go.Proofs.YtomngfihaohgdaaDoor
namespace Go.Proofs.YtomngfihaohgdaaDoor
set_option maxRecDepth 100000
open Go.RowKit

/-- Which sectors are kept. -/
def keptB (ks : List Bool) (all : Bool) (i : Nat) : Bool := if ks.length = 0 then all else (ks[i % ks.length]?).getD false
/-- A row of bools. -/
def BoolsAt (W : World) (A : Option Addr) (ks : List Bool) : Prop := ks = [] ∨ ∃ b off, A = some ⟨b, off, none⟩ ∧ b < W.heap.size ∧ ∀ (j : Nat) (x : Bool), ks[j]? = some x → W.cell? ⟨b, off + j, none⟩ = some (.bool x)
theorem BoolsAt.keep {W W' : World} {A : Option Addr} {ks : List Bool} (h : BoolsAt W A ks) (hs : W.heap.size ≤ W'.heap.size) (hk : ∀ j, j < W.heap.size → W'.heap[j]? = W.heap[j]?) : BoolsAt W' A ks := by
  rcases h with h | ⟨b, off, h1, h2, h3⟩
  · exact .inl h
  · exact .inr ⟨b, off, h1, by omega, fun j x hx => (World.cell?_of_block (a := ⟨b, off + j, none⟩) (hk b h2)).trans (h3 j x hx)⟩
theorem BoolsAt.below {W W' : World} {A : Option Addr} {ks : List Bool} (h : BoolsAt W A ks) (hb : Below W.heap.size W W') : BoolsAt W' A ks := h.keep hb.size hb.block
/-- What a keeper has in memory. -/
structure KeepAt (W : World) (bx B0 : Nat) (A : Option Addr) (c : Nat) (ks : List Bool) (all : Bool) : Prop where
  c0 : W.cell? ⟨bx, 0, none⟩ = some (.slice A ks.length c)
  c1 : W.cell? ⟨bx + 1, 0, none⟩ = some (.bool all)
  rd : ks = [] ∨ ∃ b off, A = some ⟨b, off, none⟩ ∧ b < B0 ∧ ∀ (j : Nat) (x : Bool), ks[j]? = some x → W.cell? ⟨b, off + j, none⟩ = some (.bool x)
  lt : bx + 1 < B0
theorem KeepAt.keep {W W' : World} {bx B0 : Nat} {A : Option Addr} {c : Nat} {ks : List Bool} {all : Bool} (h : KeepAt W bx B0 A c ks all) (hb : ∀ j, j < B0 → W'.heap[j]? = W.heap[j]?) : KeepAt W' bx B0 A c ks all := by
  have hl := h.lt
  refine ⟨(World.cell?_of_block (a := ⟨bx, 0, none⟩) (hb bx (by omega))).trans h.c0, (World.cell?_of_block (a := ⟨bx + 1, 0, none⟩) (hb (bx + 1) hl)).trans h.c1, ?_, hl⟩
  rcases h.rd with h | ⟨b, off, h1, h2, h3⟩
  · exact .inl h
  · exact .inr ⟨b, off, h1, h2, fun j x hx => (World.cell?_of_block (a := ⟨b, off + j, none⟩) (hb b h2)).trans (h3 j x hx)⟩
theorem keeper_any (A : Option Addr) (c : Nat) (ks : List Bool) (all : Bool) (w : World) (h : BoolsAt w A ks) :
    Calls Tryd.prog 26 #[.slice A ks.length c, .bool all] w fun e w' => ∃ bx, e = .returned (.func (.func 38) #[] #[.pointer (some ⟨bx, 0, none⟩), .pointer (some ⟨bx + 1, 0, none⟩)]) ∧ KeepAt w' bx w'.heap.size A c ks all ∧ Old w w' := by
  have HH := Lib.hid h
  clear h
  go_enter Tryd.func26, Tryd.ntmps26
  go_wp2_with fail
  go_ret
  obtain ⟨w2, hw2⟩ : ∃ w2, ((w.alloc (.cells #[.slice A ks.length c] 51)).alloc (.cells #[.bool all] 4)) = w2 := ⟨_, rfl⟩
  have h0 : Blk w2 w.heap.size 51 #[.slice A ks.length c] := by rw [← hw2]; exact (Blk.new _ _ _).alloc _
  have h1 : Blk w2 (w.heap.size + 1) 4 #[.bool all] := by
    rw [← hw2]
    have := Blk.new (w.alloc (.cells #[.slice A ks.length c] 51)) 4 #[.bool all]
    rwa [show (w.alloc (.cells #[.slice A ks.length c] 51)).heap.size = w.heap.size + 1 by simp] at this
  have hO : Old w w2 := by rw [← hw2]; exact ((Old.refl w).alloc _).alloc _
  rw [hw2]
  have c0 := h0.cell 0
  have c1 := h1.cell 0
  simp only [List.getElem?_toArray, List.getElem?_cons_zero] at c0 c1
  exact ⟨w.heap.size, rfl, ⟨c0, c1, HH.out.below hO, h1.lt⟩, hO⟩
theorem kept_ask (bx B0 : Nat) (A : Option Addr) (c : Nat) (ks : List Bool) (all : Bool) (hks : ks.length ≤ 9223372036854775807) (k : Nat) (hk : k ≤ 65536) (W : World) (h : KeepAt W bx B0 A c ks all) :
    Calls Tryd.prog 38 #[.int .i64 (k : Int), .pointer (some ⟨bx, 0, none⟩), .pointer (some ⟨bx + 1, 0, none⟩)] W fun e w' => e = .returned (.bool (keptB ks all k)) ∧ Old W w' := by
  obtain ⟨c0, c1, hr, _⟩ := h
  unfold keptB
  obtain ⟨n, hn⟩ : ∃ n, ks.length = n := ⟨_, rfl⟩
  rw [hn] at c0 hks ⊢
  by_cases h0 : n = 0
  · subst h0
    rw [if_pos rfl]
    clear hn
    go_enter Tryd.func38, Tryd.ntmps38
    go_wp2_with fail
    go_ret
    exact ⟨rfl, Old.refl _⟩
  · rw [if_neg h0]
    rcases hr with rfl | ⟨b, off, rfl, hb, hcell⟩
    · simp at hn; omega
    obtain ⟨r, hrr⟩ : ∃ r, k % n = r := ⟨_, rfl⟩
    have hrn : r < n := by rw [← hrr]; exact Nat.mod_lt _ (by omega)
    obtain ⟨x, hx⟩ : ∃ x, ks[r]? = some x := ⟨_, List.getElem?_eq_getElem (by omega)⟩
    have hc := hcell r x hx
    rw [hrr, hx, Option.getD_some]
    have hmod : (k : Int).tmod (n : Int) = (r : Int) := by rw [Int.tmod_eq_emod_of_nonneg (by omega)]; rw [← hrr]; omega
    have hn0 : ((n : Int) == 0) = false := by simp; omega
    have hn1 : ¬ (n : Int) = 0 := by omega
    have hk0 : (0 : Int) ≤ (k : Int) := by omega
    have hk0d : decide ((0 : Int) ≤ (k : Int)) = true := decide_eq_true hk0
    have hrw : IntKind.i64.wrap (r : Int) = (r : Int) := IntWalk.i64_in _ (by omega)
    have hri : (r : Int) < (n : Int) := by omega
    have HC := Lib.hid (And.intro c0 hc)
    clear hcell hx hb hrr hn
    go_enter Tryd.func38, Tryd.ntmps38
    go_wp2_with fail
    refine region_old (by kernel_rfl) (fun wd hHeld hSz => ?_)
    have HSz := Lib.hid hSz
    clear hSz
    refine takeL (i := 0) (v := ?_) rfl (by kernel_rfl) (by kernel_rfl) (by kernel_rfl) (fun _ _ _ h => h) (Or.inl ⟨by rfl, ?_⟩) hHeld ?_
    rotate_left
    focus (intro wq hSw; clear hSw; go_simp; try with_reducible rfl)
    try simp only [Act.put, List.setIfInBounds_toArray, List.set_cons_zero, List.set_cons_succ]
    refine takeL (i := 1) (v := ?_) rfl (by kernel_rfl) (by kernel_rfl) (by kernel_rfl) (fun _ _ _ h => h) (Or.inl ⟨by rfl, ?_⟩) hHeld ?_
    rotate_left
    focus (intro wq hSw; clear hSw; go_simp; try with_reducible rfl)
    try simp only [Act.put, List.setIfInBounds_toArray, List.set_cons_zero, List.set_cons_succ]
    refine takeL (i := 2) (v := ?_) rfl (by kernel_rfl) (by kernel_rfl) (by kernel_rfl) (fun _ _ _ h => h) (Or.inl ⟨by rfl, ?_⟩) hHeld ?_
    rotate_left
    focus (intro wq hSw; clear hSw; go_simp; try with_reducible rfl)
    try simp only [Act.put, List.setIfInBounds_toArray, List.set_cons_zero, List.set_cons_succ]
    refine takeL (i := 3) (v := ?_) rfl (by kernel_rfl) (by kernel_rfl) (by kernel_rfl) (fun _ _ _ h => h) (Or.inl ⟨by rfl, ?_⟩) hHeld ?_
    rotate_left
    focus (intro wq hSw; have z0 := cell_old hSw HC.out.1; clear hSw; go_simp; try with_reducible rfl)
    try simp only [Act.put, List.setIfInBounds_toArray, List.set_cons_zero, List.set_cons_succ]
    refine takeL (i := 4) (v := ?_) rfl (by kernel_rfl) (by kernel_rfl) (by kernel_rfl) (fun _ _ _ h => h) (Or.inl ⟨by rfl, ?_⟩) hHeld ?_
    rotate_left
    focus (intro wq hSw; clear hSw; go_simp; try with_reducible rfl)
    try simp only [Act.put, List.setIfInBounds_toArray, List.set_cons_zero, List.set_cons_succ]
    refine takeL (i := 5) (v := ?_) rfl (by kernel_rfl) (by kernel_rfl) (by kernel_rfl) (fun _ _ _ h => h) (Or.inl ⟨by rfl, ?_⟩) hHeld ?_
    rotate_left
    focus (intro wq hSw; have z0 := cell_old hSw HC.out.1; clear hSw; go_simp; try with_reducible rfl)
    try simp only [Act.put, List.setIfInBounds_toArray, List.set_cons_zero, List.set_cons_succ]
    refine takeL (i := 6) (v := ?_) rfl (by kernel_rfl) (by kernel_rfl) (by kernel_rfl) (fun _ _ _ h => h) (Or.inl ⟨by rfl, ?_⟩) hHeld ?_
    rotate_left
    focus (intro wq hSw; clear hSw; go_simp; try with_reducible rfl)
    try simp only [Act.put, List.setIfInBounds_toArray, List.set_cons_zero, List.set_cons_succ]
    refine takeL (i := 7) (v := ?_) rfl (by kernel_rfl) (by kernel_rfl) (by kernel_rfl) (fun _ _ _ h => h) (Or.inl ⟨by rfl, ?_⟩) hHeld ?_
    rotate_left
    focus (intro wq hSw; clear hSw; go_simp; try with_reducible rfl)
    try simp only [Act.put, List.setIfInBounds_toArray, List.set_cons_zero, List.set_cons_succ]
    refine takeL (i := 8) (v := ?_) rfl (by kernel_rfl) (by kernel_rfl) (by kernel_rfl) (fun _ _ _ h => h) (Or.inl ⟨by rfl, ?_⟩) hHeld ?_
    rotate_left
    focus (intro wq hSw; clear hSw; go_simp; try with_reducible rfl)
    try simp only [Act.put, List.setIfInBounds_toArray, List.set_cons_zero, List.set_cons_succ]
    refine takeL (i := 9) (v := ?_) rfl (by kernel_rfl) (by kernel_rfl) (by kernel_rfl) (fun _ _ _ h => h) (Or.inl ⟨by rfl, ?_⟩) hHeld ?_
    rotate_left
    focus (intro wq hSw; have z1 := cell_old hSw HC.out.2; clear hSw; go_simp; try with_reducible rfl)
    try simp only [Act.put, List.setIfInBounds_toArray, List.set_cons_zero, List.set_cons_succ]
    refine takeL (i := 10) (v := ?_) rfl (by kernel_rfl) (by kernel_rfl) (by kernel_rfl) (fun _ _ _ h => h) (Or.inl ⟨by rfl, ?_⟩) hHeld ?_
    rotate_left
    focus (intro wq hSw; clear hSw; go_simp; try with_reducible rfl)
    try simp only [Act.put, List.setIfInBounds_toArray, List.set_cons_zero, List.set_cons_succ]
    refine takeL (i := 11) (v := ?_) rfl (by kernel_rfl) (by kernel_rfl) (by kernel_rfl) (fun _ _ _ h => h) (Or.inl ⟨by rfl, ?_⟩) hHeld ?_
    rotate_left
    focus (intro wq hSw; clear hSw; go_simp; try with_reducible rfl)
    try simp only [Act.put, List.setIfInBounds_toArray, List.set_cons_zero, List.set_cons_succ]
    refine wpAnyH_done (by kernel_rfl) ?_ _
    refine NoPanic.normal ?_
    try simp only [Exit.then]
    go_wp2_with fail
    go_ret
    exact ⟨rfl, hHeld⟩
theorem kept_asks (bx B0 : Nat) (A : Option Addr) (c : Nat) (ks : List Bool) (all : Bool) (hks : ks.length ≤ 9223372036854775807) (s : Dsk) (hs : s.secs.length ≤ 65536) :
    Asks 38 #[.pointer (some ⟨bx, 0, none⟩), .pointer (some ⟨bx + 1, 0, none⟩)] s (keptB ks all) B0 [] (fun _ W => KeepAt W bx B0 A c ks all ∧ B0 ≤ W.heap.size) where
  enters := fun _ _ => by kernel_rfl
  abide := fun _ w1 w2 h hk => ⟨h.1.keep hk, by
    have hl := h.1.lt
    have h1 := hk (B0 - 1) (by omega)
    rw [Array.getElem?_eq_getElem (show B0 - 1 < w1.heap.size by have := h.2; omega)] at h1
    have := (Array.getElem?_eq_some_iff.1 h1).1
    omega⟩
  typed := fun _ _ _ g hg => by simp at hg
  skip := fun _ _ _ _ h => h
  ask := fun k w1 hk _ h => (kept_ask bx B0 A c ks all hks k (by omega) w1 h.1).mono fun e w' ⟨he, hw⟩ => ⟨he, ⟨h.1.keep fun j hj => hw.block j (by omega), Nat.le_trans h.2 hw.size⟩, Turn.of_below _ hw⟩
theorem dk_keep {d L : Nat} {s : Dsk} {w : World} (bx : Nat) (A : Option Addr) (c : Nat) (ks : List Bool) (all : Bool) (hks : ks.length ≤ 9223372036854775807) (h : DkAt w d L s) (hk : KeepAt w bx w.heap.size A c ks all) :
    Calls Tryd.prog 15 #[.pointer (some ⟨d, 0, none⟩), .func (.func 38) #[] #[.pointer (some ⟨bx, 0, none⟩), .pointer (some ⟨bx + 1, 0, none⟩)]] w fun e w' =>
      ∃ d' L', e = .returned (.pointer (some ⟨d', 0, none⟩)) ∧ DkAt w' d' L' (s.crash (keptB ks all)) ∧ w.heap.size ≤ d' ∧ w.heap.size ≤ L' ∧ Old w w' := by
  have hn := h.n
  obtain ⟨xs, h⟩ := h
  refine (crash_any d L _ _ xs s (keptB ks all) [] _ w h (kept_asks bx w.heap.size A c ks all hks s hn.2) ⟨hk, Nat.le_refl _⟩ (by simp) (by simp) (by simp)).mono ?_
  rintro e w' ⟨rfl, hy, _, hT⟩
  exact ⟨_, _, rfl, hy, by omega, Nat.le_refl _, hT.below⟩
end Go.Proofs.YtomngfihaohgdaaDoor
namespace Go.Proofs.YtomngfihaohgdaaDoor
set_option maxRecDepth 100000
open Go.RowKit

theorem dk_fuse (d L : Nat) (s : Dsk) (n : Int) (w : World) (h : DkAt w d L s) :
    Calls Tryd.prog 25 #[.pointer (some ⟨d, 0, none⟩), .int .i64 n] w fun e w' => e = .returned (.tuple #[]) ∧ DkAt w' d L (s.fuse n) ∧ Turn [d, L] w w' := by
  obtain ⟨xs, h⟩ := h
  refine (fuse_any d L xs s n w h).mono ?_
  rintro e w' ⟨rfl, h1, h2⟩
  exact ⟨rfl, ⟨xs, h1⟩, h2.more (by simp)⟩
theorem dk_new (n : Nat) (h0 : 1 ≤ n) (h1 : n ≤ 65536) (w : World) : Calls Tryd.prog 20 #[.int .i64 n] w fun e w' =>
    ∃ d L, e = .returned (.pointer (some ⟨d, 0, none⟩)) ∧ DkAt w' d L (Dsk.new n) ∧ w.heap.size ≤ d ∧ w.heap.size ≤ L ∧ Old w w' := by
  refine (new_in n h0 h1 w).mono ?_
  rintro e w' ⟨rfl, hA, hb⟩
  exact ⟨_, _, rfl, ⟨_, hA⟩, by omega, Nat.le_refl _, hb⟩
/-- Format, whatever the device. -/
def Dsk.fmt2 (s : Dsk) : Bool × Dsk := if s.dead then (false, s) else s.fmt
theorem format_two (d L : Nat) (s : Dsk) (w : World) (h : DkAt w d L s) (hn : 16 ≤ s.n) (hn2 : s.n ≤ 1000) (hf : FOk s 0) (hz : ZeroD s) (hK : KAt w) :
    Calls Tryd.prog 16 #[.pointer (some ⟨d, 0, none⟩)] w fun e w' => e = .returned (.int .i64 (if s.fmt2.1 then 0 else 48)) ∧ DkAt w' d L s.fmt2.2 ∧ Turn [d, L] w w' := by
  unfold Dsk.fmt2
  by_cases hd : s.dead = true
  · rw [if_pos hd]
    refine (format_dead d L s w h hn hd).mono ?_
    rintro e w' ⟨rfl, rfl⟩
    exact ⟨rfl, h, Turn.refl _ _⟩
  · rw [if_neg hd]
    exact format_any d L s w h hn hn2 (by simpa using hd) hf (fun i hi => (hz i hi).1) hK
theorem fmt2_cases {s : Dsk} (hz : ZeroD s) (h16 : 16 ≤ s.n) (h60 : s.n ≤ 1000) (kp : Nat → Bool) :
    s.fmt2.2.n = s.n ∧ ((s.fmt2.1 = false ∧ ZeroD (s.fmt2.2.crash kp)) ∨ Good headB (s.fmt2.2.crash kp) 0 (List.replicate ((s.n - 8) / 2) (zs 256))) := by
  unfold Dsk.fmt2
  by_cases hd : s.dead = true
  · rw [if_pos hd]
    exact ⟨rfl, .inl ⟨rfl, fun i hi => crash_cl (hz i (by rwa [crash_n] at hi)) kp⟩⟩
  · rw [if_neg hd]
    obtain ⟨ok, s', hs⟩ : ∃ ok s', s.fmt = (ok, s') := ⟨_, _, rfl⟩
    obtain ⟨h1, h2, h3, _⟩ := fmt_cases hz h16 h60 hs
    rw [hs]
    refine ⟨h1, ?_⟩
    cases ok with
    | true => exact .inr ((h2 rfl).crash kp)
    | false =>
      rcases h3 rfl kp with h | h
      · exact .inl ⟨rfl, h⟩
      · exact .inr h
theorem fuse_n (s : Dsk) (n : Int) : (s.fuse n).n = s.n := by unfold Dsk.fuse; split <;> rfl
theorem fuse_zero {s : Dsk} (h : ZeroD s) (n : Int) : ZeroD (s.fuse n) := by
  unfold Dsk.fuse
  split
  · exact h
  · exact h
theorem isM_fresh {s : Dsk} {B : Nat} (hB : (s.n - 8) / 2 = B) (hg : Good headB s 0 (List.replicate B (zs 256))) : isM s 0 (List.replicate B (zs 256)) = true := by
  refine decide_eq_true fun i hi => ?_
  rw [List.length_replicate] at hi ⊢
  have h1 : (List.replicate B (zs 256))[i]? = some (zs 256) := by rw [List.getElem?_replicate, if_pos hi]
  have := (hg.side i _ h1).1
  rw [hB] at this
  rw [h1, this]; rfl
end Go.Proofs.YtomngfihaohgdaaDoor
namespace Go.Proofs.YtomngfihaohgdaaDoor
set_option maxRecDepth 100000
open Go.RowKit

theorem fsFormat_out (S F : Int) (A : Option Addr) (n c : Nat) (w : World) (hK : KAt w) (h : S < 0 ∨ 60 < S ∨ F < 0) :
    Calls Tryd.prog 8 #[.int .i64 S, .int .i64 F, .slice A n c] w fun e w' => e = .returned (.bool true) ∧ Old w w' := by
  by_cases h0 : S < 0
  · have t0 : decide (S < 0) = true := decide_eq_true h0
    go_enter Tryd.func8, Tryd.ntmps8
    go_wp2_with fail
    refine (begun_any w hK).mono ?_
    rintro e w1 ⟨rfl, hb1⟩
    go_wp2_with fail
    go_ret
    exact ⟨rfl, hb1⟩
  · have t0 : decide (S < 0) = false := decide_eq_false h0
    by_cases h1 : 60 < S
    · have t1 : decide (60 < S) = true := decide_eq_true h1
      go_enter Tryd.func8, Tryd.ntmps8
      go_wp2_with fail
      refine (begun_any w hK).mono ?_
      rintro e w1 ⟨rfl, hb1⟩
      go_wp2_with fail
      go_ret
      exact ⟨rfl, hb1⟩
    · have t1 : decide (60 < S) = false := decide_eq_false h1
      have h2 : F < 0 := by omega
      have t2 : decide (F < 0) = true := decide_eq_true h2
      go_enter Tryd.func8, Tryd.ntmps8
      go_wp2_with fail
      refine (begun_any w hK).mono ?_
      rintro e w1 ⟨rfl, hb1⟩
      go_wp2_with fail
      go_ret
      exact ⟨rfl, hb1⟩
theorem fsFormat_zero (F : Int) (A : Option Addr) (n c : Nat) (w : World) (hK : KAt w) (h : 0 ≤ F) :
    Calls Tryd.prog 8 #[.int .i64 0, .int .i64 F, .slice A n c] w fun e w' => e = .returned (.bool true) ∧ Old w w' := by
  have h2 : ¬ F < 0 := by omega
  have t2 : decide (F < 0) = false := decide_eq_false h2
  go_enter Tryd.func8, Tryd.ntmps8
  go_wp2_with fail
  refine (begun_any w hK).mono ?_
  rintro e w1 ⟨rfl, hb1⟩
  have hn := new_out 0 (.inl (by omega)) w1
  have hm := mount_nil w1
  have hf := format_nil w1
  go_wp2_with fail
  refine hn.mono ?_
  rintro e w' ⟨rfl, rfl⟩
  go_wp2_with fail
  refine hm.mono ?_
  rintro e w' ⟨rfl, rfl⟩
  go_wp2_with fail
  refine hf.mono ?_
  rintro e w' ⟨rfl, rfl⟩
  go_wp2_with fail
  go_ret
  exact ⟨rfl, hb1⟩
theorem fsFormat_few (S : Nat) (F : Int) (A : Option Addr) (n c : Nat) (w : World) (hK : KAt w) (h0 : 1 ≤ S) (h1 : S < 16) (h : 0 ≤ F) :
    Calls Tryd.prog 8 #[.int .i64 (S : Int), .int .i64 F, .slice A n c] w fun e w' => e = .returned (.bool true) ∧ Old w w' := by
  have h2 : ¬ F < 0 := by omega
  have t2 : decide (F < 0) = false := decide_eq_false h2
  have h3 : ¬ (S : Int) < 0 := by omega
  have t3 : decide ((S : Int) < 0) = false := decide_eq_false h3
  have h4 : ¬ 60 < (S : Int) := by omega
  have t4 : decide (60 < (S : Int)) = false := decide_eq_false h4
  have h5 : (S : Int) < 16 := by omega
  have t5 : decide ((S : Int) < 16) = true := decide_eq_true h5
  go_enter Tryd.func8, Tryd.ntmps8
  go_wp2_with fail
  refine (begun_any w hK).mono ?_
  rintro e w1 ⟨rfl, hb1⟩
  have hn := dk_new S h0 (by omega) w1
  go_wp2_with fail
  refine hn.mono ?_
  rintro e w2 ⟨d, L, rfl, hD, hd2, hL2, hO⟩
  have hm := mount_no d L _ w2 hD (by rw [new_n]; omega)
  have hf := format_no d L _ w2 hD (by rw [new_n]; omega)
  have H := Lib.hid (Old.trans hb1 hO)
  clear hn hD hd2 hL2 hO
  go_wp2_with fail
  refine hm.mono ?_
  rintro e w' ⟨rfl, rfl⟩
  go_wp2_with fail
  refine hf.mono ?_
  rintro e w' ⟨rfl, rfl⟩
  go_wp2_with fail
  go_ret
  exact ⟨rfl, H.out⟩
set_option maxHeartbeats 1000000 in
theorem fsFormat_in (S F : Nat) (A : Option Addr) (c : Nat) (ks : List Bool) (w : World) (hK : KAt w) (h0 : 16 ≤ S) (h1 : S ≤ 60) (hA : BoolsAt w A ks) (hks : ks.length ≤ 9223372036854775807) :
    Calls Tryd.prog 8 #[.int .i64 (S : Int), .int .i64 (F : Int), .slice A ks.length c] w fun e w' => e = .returned (.bool true) ∧ Old w w' := by
  have h2 : ¬ (F : Int) < 0 := by omega
  have t2 : decide ((F : Int) < 0) = false := decide_eq_false h2
  have h3 : ¬ (S : Int) < 0 := by omega
  have t3 : decide ((S : Int) < 0) = false := decide_eq_false h3
  have h4 : ¬ 60 < (S : Int) := by omega
  have t4 : decide (60 < (S : Int)) = false := decide_eq_false h4
  have h5 : ¬ (S : Int) < 16 := by omega
  have t5 : decide ((S : Int) < 16) = false := decide_eq_false h5
  go_enter Tryd.func8, Tryd.ntmps8
  go_wp2_with fail
  refine (begun_any w hK).mono ?_
  rintro e w1 ⟨rfl, hb1⟩
  have hn := dk_new S (by omega) (by omega) w1
  have HW := Lib.hid (And.intro hK hA)
  have hwd : ∀ W, w1.heap.size ≤ W → w.heap.size ≤ W := fun W h => Nat.le_trans hb1.size h
  have hK1 := hK.below hb1
  have hA1 := hA.below hb1
  clear hK hA
  go_wp2_with fail
  refine hn.mono ?_
  rintro e w2 ⟨d, L, rfl, hD, hd2, hL2, hO⟩
  obtain ⟨s0, hs0⟩ : ∃ s0, Dsk.new S = s0 := ⟨_, rfl⟩
  have hz := zeroD_new S
  have hsn := new_n S
  have hfo := new_fok S
  have hdd : (Dsk.new S).dead = false := rfl
  have hfc : ∀ n : Int, n < 50 → FOk ((Dsk.new S).fuse n) 0 := fun n hn => by
    unfold Dsk.fuse
    rw [if_neg (by simp [hdd])]
    exact ⟨fun _ h => by simp only [decide_eq_false_iff_not] at h; simp only; omega, by simp only; omega, Nat.le_refl _⟩
  rw [hs0] at hD hz hsn hfo hdd hfc
  have hm := mount_zero d L s0 w2 hD hz (by omega) (by omega) hdd (hK1.below hO)
  have H2 := Lib.hid (And.intro hD (And.intro hz (And.intro hsn (And.intro hfc (And.intro (hK1.below hO) (And.intro (hA1.below hO) (Old.trans hb1 hO)))))))
  clear hn hD hz hsn hfo hdd hfc hs0 hK1 hA1 hO
  go_wp2_with fail
  refine hm.mono ?_
  rintro e w3 ⟨rfl, hO3⟩
  obtain ⟨f5, hf5⟩ : ∃ f5, F % 50 = f5 := ⟨_, rfl⟩
  have hf5l : f5 < 50 := by omega
  have hfm : (F : Int).tmod 50 = (f5 : Int) := by rw [Int.tmod_eq_emod_of_nonneg (by omega)]; omega
  have hfu := dk_fuse d L s0 (f5 : Int) w3 (H2.out.1.below hO3)
  have hF0 := H2.out.2.2.2.1 (f5 : Int) (by omega)
  have hFz := fuse_zero H2.out.2.1 (f5 : Int)
  have hFn := fuse_n s0 (f5 : Int)
  obtain ⟨s1, hs1⟩ : ∃ s1, s0.fuse (f5 : Int) = s1 := ⟨_, rfl⟩
  rw [hs1] at hfu hF0 hFz hFn
  rw [H2.out.2.2.1] at hFn
  have H3 := Lib.hid (And.intro (H2.out.1.below hO3) (And.intro (H2.out.2.2.2.2.1.below hO3) (And.intro (H2.out.2.2.2.2.2.1.below hO3) (And.intro (Old.trans H2.out.2.2.2.2.2.2 hO3) (And.intro hF0 (And.intro hFz hFn))))))
  clear hm hO3 hf5 hF0 hFz hFn hs1
  go_wp2_with fail
  refine hfu.mono ?_
  rintro e w4 ⟨rfl, hD4, hT4⟩
  have hK4 := H3.out.2.1.beside H3.out.1 hT4
  have hft := format_two d L s1 w4 hD4 (by rw [H3.out.2.2.2.2.2.2]; omega) (by rw [H3.out.2.2.2.2.2.2]; omega) H3.out.2.2.2.2.1 H3.out.2.2.2.2.2.1 hK4
  have hO4 : Old w w4 := below_turn H3.out.2.2.2.1 hT4 (by have := hwd _ hd2; have := hwd _ hL2; simp; omega) H3.out.2.2.2.1.size
  obtain ⟨ok, s5, hs5⟩ : ∃ ok s5, s1.fmt2 = (ok, s5) := ⟨_, _, rfl⟩
  have hcs := fun kp => fmt2_cases H3.out.2.2.2.2.2.1 (by rw [H3.out.2.2.2.2.2.2]; omega) (by rw [H3.out.2.2.2.2.2.2]; omega) kp
  rw [hs5] at hft hcs
  simp only [H3.out.2.2.2.2.2.2] at hft hcs
  have H4 := Lib.hid (And.intro hO4 hcs)
  obtain ⟨r2, hr2⟩ : ∃ r2, F % 2 = r2 := ⟨_, rfl⟩
  have hm2 : (F : Int).tmod 2 = (r2 : Int) := by rw [Int.tmod_eq_emod_of_nonneg (by omega)]; omega
  have hr2l : r2 = 0 ∨ r2 = 1 := by omega
  obtain ⟨B, hB⟩ : ∃ B, (S - 8) / 2 = B := ⟨_, rfl⟩
  have hBi : ((S : Int) - 8).tdiv 2 = (B : Int) := by rw [Int.tdiv_eq_ediv_of_nonneg (by omega)]; omega
  have HB := Lib.hid hB
  have hBl : B ≤ 26 := by omega
  have hS60 : (S : Int) ≤ 60 := by omega
  have hS16 : (16 : Int) ≤ S := by omega
  clear hfu hD4 hT4 hK4 hO4 hcs hs5 hr2 hB
  go_wp2_with fail
  refine hft.mono ?_
  rintro e w5 ⟨rfl, hD5, hT5⟩
  have hO5 : Old w w5 := below_turn H4.out.1 hT5 (by have := hwd _ hd2; have := hwd _ hL2; simp; omega) H4.out.1.size
  have H5 := Lib.hid (And.intro hD5 hO5)
  clear hft hD5 hT5 hO5
  rcases hr2l with rfl | rfl
  · cases ok with
    | false =>
      go_wp2_with fail
      refine (keeper_any A c ks true w5 (HW.out.2.below H5.out.2)).mono ?_
      rintro e w6 ⟨bx, rfl, hk6, hO6⟩
      have hD6 := H5.out.1.below hO6
      have hcr := dk_keep bx A c ks true hks hD6 hk6
      have hO6' := Old.trans H5.out.2 hO6
      go_wp2_with fail
      refine hcr.mono ?_
      rintro e w7 ⟨d', L', rfl, hD7, _, _, hO7⟩
      have H7 := Lib.hid (And.intro hD7 (And.intro (Old.trans hO6' hO7) (And.intro (show (s5.crash (keptB ks true)).n = S by rw [crash_n]; exact (H4.out.2 (keptB ks true)).1) (crash_fresh s5 (keptB ks true)).2.1)))
      clear hk6 hO6 hD6 hcr hO6' hD7 hO7
      rcases (H4.out.2 (keptB ks true)).2 with ⟨_, hz6⟩ | hg6
      · have hm7 := mount_zero d' L' _ w7 H7.out.1 hz6 (by rw [H7.out.2.2.1]; omega) (by rw [H7.out.2.2.1]; omega) H7.out.2.2.2 (HW.out.1.below H7.out.2.1)
        clear hz6
        go_wp2_with fail
        refine hm7.mono ?_
        rintro e w8 ⟨rfl, hO8⟩
        have H8 := Lib.hid (Old.trans H7.out.2.1 hO8)
        clear hm7 hO8
        go_wp2_with fail
        go_ret
        exact ⟨rfl, H8.out⟩
      · have hg6' := hg6
        rw [HB.out] at hg6'
        have hm7 := mount_good d' L' _ 0 _ w7 H7.out.1 hg6 (by omega) H7.out.2.2.2 (HW.out.1.below H7.out.2.1)
        rw [H7.out.2.2.1, HB.out] at hm7
        have HG := Lib.hid hg6'
        clear hg6 hg6'
        go_wp2_with fail
        refine hm7.mono ?_
        rintro e w8 ⟨v, rfl, hv8, hV8, hO8⟩
        have H8 := Lib.hid (And.intro (H7.out.1.below hO8) (And.intro hV8 (Old.trans H7.out.2.1 hO8)))
        clear hm7 hV8 hO8
        have hfr := fresh_any B (by omega) w8
        go_wp2_with fail
        refine hfr.mono ?_
        rintro e w9 ⟨A9, n9, c9, rs, rfl, hM9, hrs, hO9⟩
        have hrl : rs.length = B := by have := congrArg List.length hrs; simpa using this
        have his := is_any v d' L' 0 false _ A9 n9 c9 _ rs w9 (by rw [hrl]; exact Blk.below H8.out.2.1 hO9) (H8.out.1.below hO9) hM9 (by omega) (by omega) (by rw [hrl, H7.out.2.2.1]; have := HB.out; omega)
        rw [hrs, isM_fresh (by rw [H7.out.2.2.1]; exact HB.out) HG.out] at his
        have H9 := Lib.hid (And.intro (Blk.below H8.out.2.1 hO9) (Old.trans H8.out.2.2 hO9))
        clear hfr hM9 hrs hO9 hrl
        go_wp2_with fail
        refine his.mono ?_
        rintro e w10 ⟨rfl, hO10⟩
        have hcm := commits_any v d' B 0 false w10 (Blk.below H9.out.1 hO10)
        rw [show ((0 : Nat) : Int) = 0 from rfl] at hcm
        have H10 := Lib.hid (Old.trans H9.out.2 hO10)
        clear his hO10
        go_wp2_with fail
        refine hcm.mono ?_
        rintro e w' ⟨rfl, rfl⟩
        go_wp2_with fail
        go_ret
        exact ⟨rfl, H10.out⟩
    | true =>
      go_wp2_with fail
      refine (keeper_any A c ks true w5 (HW.out.2.below H5.out.2)).mono ?_
      rintro e w6 ⟨bx, rfl, hk6, hO6⟩
      have hD6 := H5.out.1.below hO6
      have hcr := dk_keep bx A c ks true hks hD6 hk6
      have hO6' := Old.trans H5.out.2 hO6
      go_wp2_with fail
      refine hcr.mono ?_
      rintro e w7 ⟨d', L', rfl, hD7, _, _, hO7⟩
      have H7 := Lib.hid (And.intro hD7 (And.intro (Old.trans hO6' hO7) (And.intro (show (s5.crash (keptB ks true)).n = S by rw [crash_n]; exact (H4.out.2 (keptB ks true)).1) (crash_fresh s5 (keptB ks true)).2.1)))
      clear hk6 hO6 hD6 hcr hO6' hD7 hO7
      rcases (H4.out.2 (keptB ks true)).2 with ⟨h6, _⟩ | hg6
      · cases h6
      · have hg6' := hg6
        rw [HB.out] at hg6'
        have hm7 := mount_good d' L' _ 0 _ w7 H7.out.1 hg6 (by omega) H7.out.2.2.2 (HW.out.1.below H7.out.2.1)
        rw [H7.out.2.2.1, HB.out] at hm7
        have HG := Lib.hid hg6'
        clear hg6 hg6'
        go_wp2_with fail
        refine hm7.mono ?_
        rintro e w8 ⟨v, rfl, hv8, hV8, hO8⟩
        have H8 := Lib.hid (And.intro (H7.out.1.below hO8) (And.intro hV8 (Old.trans H7.out.2.1 hO8)))
        clear hm7 hV8 hO8
        have hfr := fresh_any B (by omega) w8
        go_wp2_with fail
        refine hfr.mono ?_
        rintro e w9 ⟨A9, n9, c9, rs, rfl, hM9, hrs, hO9⟩
        have hrl : rs.length = B := by have := congrArg List.length hrs; simpa using this
        have his := is_any v d' L' 0 false _ A9 n9 c9 _ rs w9 (by rw [hrl]; exact Blk.below H8.out.2.1 hO9) (H8.out.1.below hO9) hM9 (by omega) (by omega) (by rw [hrl, H7.out.2.2.1]; have := HB.out; omega)
        rw [hrs, isM_fresh (by rw [H7.out.2.2.1]; exact HB.out) HG.out] at his
        have H9 := Lib.hid (And.intro (Blk.below H8.out.2.1 hO9) (Old.trans H8.out.2.2 hO9))
        clear hfr hM9 hrs hO9 hrl
        go_wp2_with fail
        refine his.mono ?_
        rintro e w10 ⟨rfl, hO10⟩
        have hcm := commits_any v d' B 0 false w10 (Blk.below H9.out.1 hO10)
        rw [show ((0 : Nat) : Int) = 0 from rfl] at hcm
        have H10 := Lib.hid (Old.trans H9.out.2 hO10)
        clear his hO10
        go_wp2_with fail
        refine hcm.mono ?_
        rintro e w' ⟨rfl, rfl⟩
        go_wp2_with fail
        go_ret
        exact ⟨rfl, H10.out⟩
  · cases ok with
    | false =>
      go_wp2_with fail
      refine (keeper_any A c ks false w5 (HW.out.2.below H5.out.2)).mono ?_
      rintro e w6 ⟨bx, rfl, hk6, hO6⟩
      have hD6 := H5.out.1.below hO6
      have hcr := dk_keep bx A c ks false hks hD6 hk6
      have hO6' := Old.trans H5.out.2 hO6
      go_wp2_with fail
      refine hcr.mono ?_
      rintro e w7 ⟨d', L', rfl, hD7, _, _, hO7⟩
      have H7 := Lib.hid (And.intro hD7 (And.intro (Old.trans hO6' hO7) (And.intro (show (s5.crash (keptB ks false)).n = S by rw [crash_n]; exact (H4.out.2 (keptB ks false)).1) (crash_fresh s5 (keptB ks false)).2.1)))
      clear hk6 hO6 hD6 hcr hO6' hD7 hO7
      rcases (H4.out.2 (keptB ks false)).2 with ⟨_, hz6⟩ | hg6
      · have hm7 := mount_zero d' L' _ w7 H7.out.1 hz6 (by rw [H7.out.2.2.1]; omega) (by rw [H7.out.2.2.1]; omega) H7.out.2.2.2 (HW.out.1.below H7.out.2.1)
        clear hz6
        go_wp2_with fail
        refine hm7.mono ?_
        rintro e w8 ⟨rfl, hO8⟩
        have H8 := Lib.hid (Old.trans H7.out.2.1 hO8)
        clear hm7 hO8
        go_wp2_with fail
        go_ret
        exact ⟨rfl, H8.out⟩
      · have hg6' := hg6
        rw [HB.out] at hg6'
        have hm7 := mount_good d' L' _ 0 _ w7 H7.out.1 hg6 (by omega) H7.out.2.2.2 (HW.out.1.below H7.out.2.1)
        rw [H7.out.2.2.1, HB.out] at hm7
        have HG := Lib.hid hg6'
        clear hg6 hg6'
        go_wp2_with fail
        refine hm7.mono ?_
        rintro e w8 ⟨v, rfl, hv8, hV8, hO8⟩
        have H8 := Lib.hid (And.intro (H7.out.1.below hO8) (And.intro hV8 (Old.trans H7.out.2.1 hO8)))
        clear hm7 hV8 hO8
        have hfr := fresh_any B (by omega) w8
        go_wp2_with fail
        refine hfr.mono ?_
        rintro e w9 ⟨A9, n9, c9, rs, rfl, hM9, hrs, hO9⟩
        have hrl : rs.length = B := by have := congrArg List.length hrs; simpa using this
        have his := is_any v d' L' 0 false _ A9 n9 c9 _ rs w9 (by rw [hrl]; exact Blk.below H8.out.2.1 hO9) (H8.out.1.below hO9) hM9 (by omega) (by omega) (by rw [hrl, H7.out.2.2.1]; have := HB.out; omega)
        rw [hrs, isM_fresh (by rw [H7.out.2.2.1]; exact HB.out) HG.out] at his
        have H9 := Lib.hid (And.intro (Blk.below H8.out.2.1 hO9) (Old.trans H8.out.2.2 hO9))
        clear hfr hM9 hrs hO9 hrl
        go_wp2_with fail
        refine his.mono ?_
        rintro e w10 ⟨rfl, hO10⟩
        have hcm := commits_any v d' B 0 false w10 (Blk.below H9.out.1 hO10)
        rw [show ((0 : Nat) : Int) = 0 from rfl] at hcm
        have H10 := Lib.hid (Old.trans H9.out.2 hO10)
        clear his hO10
        go_wp2_with fail
        refine hcm.mono ?_
        rintro e w' ⟨rfl, rfl⟩
        go_wp2_with fail
        go_ret
        exact ⟨rfl, H10.out⟩
    | true =>
      go_wp2_with fail
      refine (keeper_any A c ks false w5 (HW.out.2.below H5.out.2)).mono ?_
      rintro e w6 ⟨bx, rfl, hk6, hO6⟩
      have hD6 := H5.out.1.below hO6
      have hcr := dk_keep bx A c ks false hks hD6 hk6
      have hO6' := Old.trans H5.out.2 hO6
      go_wp2_with fail
      refine hcr.mono ?_
      rintro e w7 ⟨d', L', rfl, hD7, _, _, hO7⟩
      have H7 := Lib.hid (And.intro hD7 (And.intro (Old.trans hO6' hO7) (And.intro (show (s5.crash (keptB ks false)).n = S by rw [crash_n]; exact (H4.out.2 (keptB ks false)).1) (crash_fresh s5 (keptB ks false)).2.1)))
      clear hk6 hO6 hD6 hcr hO6' hD7 hO7
      rcases (H4.out.2 (keptB ks false)).2 with ⟨h6, _⟩ | hg6
      · cases h6
      · have hg6' := hg6
        rw [HB.out] at hg6'
        have hm7 := mount_good d' L' _ 0 _ w7 H7.out.1 hg6 (by omega) H7.out.2.2.2 (HW.out.1.below H7.out.2.1)
        rw [H7.out.2.2.1, HB.out] at hm7
        have HG := Lib.hid hg6'
        clear hg6 hg6'
        go_wp2_with fail
        refine hm7.mono ?_
        rintro e w8 ⟨v, rfl, hv8, hV8, hO8⟩
        have H8 := Lib.hid (And.intro (H7.out.1.below hO8) (And.intro hV8 (Old.trans H7.out.2.1 hO8)))
        clear hm7 hV8 hO8
        have hfr := fresh_any B (by omega) w8
        go_wp2_with fail
        refine hfr.mono ?_
        rintro e w9 ⟨A9, n9, c9, rs, rfl, hM9, hrs, hO9⟩
        have hrl : rs.length = B := by have := congrArg List.length hrs; simpa using this
        have his := is_any v d' L' 0 false _ A9 n9 c9 _ rs w9 (by rw [hrl]; exact Blk.below H8.out.2.1 hO9) (H8.out.1.below hO9) hM9 (by omega) (by omega) (by rw [hrl, H7.out.2.2.1]; have := HB.out; omega)
        rw [hrs, isM_fresh (by rw [H7.out.2.2.1]; exact HB.out) HG.out] at his
        have H9 := Lib.hid (And.intro (Blk.below H8.out.2.1 hO9) (Old.trans H8.out.2.2 hO9))
        clear hfr hM9 hrs hO9 hrl
        go_wp2_with fail
        refine his.mono ?_
        rintro e w10 ⟨rfl, hO10⟩
        have hcm := commits_any v d' B 0 false w10 (Blk.below H9.out.1 hO10)
        rw [show ((0 : Nat) : Int) = 0 from rfl] at hcm
        have H10 := Lib.hid (Old.trans H9.out.2 hO10)
        clear his hO10
        go_wp2_with fail
        refine hcm.mono ?_
        rintro e w' ⟨rfl, rfl⟩
        go_wp2_with fail
        go_ret
        exact ⟨rfl, H10.out⟩
end Go.Proofs.YtomngfihaohgdaaDoor
namespace Go.Proofs.YtomngfihaohgdaaDoor
set_option maxRecDepth 100000
open Go.RowKit Go.ChangeShapes Go.WideShapes Go.ChangeAt

def Tryd.eB : ETy Bool where
  t := 4
  ts := 51
  sz := 1
  bytes := 1
  z := .bool false
  cells := fun b => [.bool b]
  len := fun _ => rfl
  one := fun x u hu => by simp at hu; subst hu; rfl
  pos := by decide
  zsz := rfl
  small := by decide
  und := Tryd.underlying51
  info := by kernel_rfl
theorem bools_all : ∀ l : List Bool, Tryd.eB.all l = l.map Value.bool
  | [] => rfl
  | y :: l => by
    have ih := bools_all l
    unfold ETy.all at ih ⊢
    rw [List.flatMap_cons, List.map_cons, ih]; rfl
theorem RdC.bools {W : World} {A : Option Addr} {m : Nat} {l : List Bool} (h : RdC Tryd.eB W A m l) : BoolsAt W A l := by
  obtain ⟨h1, h2 | ⟨g, off, h2, h3, h4⟩⟩ := h
  · left; rw [h2] at h1; exact List.eq_nil_of_length_eq_zero h1
  · right
    refine ⟨g, off, h2, h3, fun j x hj => h4 j (.bool x) ?_⟩
    have e := bools_all l
    rw [e, List.getElem?_map, hj]; rfl
section
variable {H : Type} {enc : TypeId × Value → H}
theorem open_bools {W : World} {base : Nat} {v : Value} {d : DataW H} {p : List MemPlace} (hval : Value.okWide Tryd.prog W .any base 51 v) (h : DataW.Trod enc Tryd.prog W 0 (fun _ => true) true 51 v d p) :
    ∃ A m c l, v = .slice A m c ∧ m ≤ maxLen ∧ l.length = m ∧ BoolsAt W A l := by
  obtain ⟨A, m, c, l, h1, h2, _, h3, _⟩ := open_sliceE Tryd.eB (fun _ => True) (by kernel_rfl) (fun n cs y h => by
    obtain ⟨b, e, _⟩ := DataW.trod_bool Tryd.underlying4 h
    exact ⟨b, e, trivial⟩) (fun x => ⟨_, rfl, .i64, 0, .inr ⟨x, rfl⟩⟩) hval h
  exact ⟨A, m, c, l, h1, h2, h3.1, h3.bools⟩
end
theorem fsFormat_walk (S F : Int) (A : Option Addr) (m c : Nat) (ks : List Bool) (w : World) (hK : KAt w) (hm : m ≤ maxLen) (hr : ks.length = m ∧ BoolsAt w A ks) :
    Calls Tryd.prog 8 #[.int .i64 S, .int .i64 F, .slice A m c] w fun e w' => e = .returned (.bool true) ∧ Below w.heap.size w w' := by
  by_cases h : S < 0 ∨ 60 < S ∨ F < 0
  · exact fsFormat_out S F A m c w hK h
  · obtain ⟨s, rfl⟩ := Int.eq_ofNat_of_zero_le (show 0 ≤ S by omega)
    obtain ⟨f, rfl⟩ := Int.eq_ofNat_of_zero_le (show 0 ≤ F by omega)
    obtain ⟨h1, h2⟩ := hr
    subst h1
    by_cases h16 : 16 ≤ s
    · exact fsFormat_in s f A c ks w hK h16 (by omega) h2 (by unfold maxLen at hm; omega)
    · by_cases h0 : s = 0
      · subst h0
        exact fsFormat_zero (f : Int) A ks.length c w hK (by omega)
      · exact fsFormat_few s (f : Int) A ks.length c w hK (by omega) (by omega) (by omega)
end Go.Proofs.YtomngfihaohgdaaDoor
