/-
  blockfs: lists of puts that came in.
-/
import Derived.Test.YtgjnmpjimhbfgaaGreatDoorZzFs21
import Derived.Test.YtgjnmpjimhbfgaaGreatDoorOpenR
import Derived.Test.YtgjnmpjimhbfgaaGreatDoorZzRowK
namespace Go.Proofs.YtgjnmpjimhbfgaaGreatDoor
set_option maxRecDepth 100000
open Go.RowKit Go.ChangeShapes Go.WideShapes Go.ChangeAt
structure InP where
 blk : Int
 A : Option Addr
 n : Nat
 c : Nat
 l : List UInt8
 sh : Bool
theorem full_e (A : Option Addr) (m c : Nat) (n : Nat) (l : List UInt8) (w : World) (h : RdE w A m c l) (hn : n ≤ 20000) :
  Calls Tryz.prog 55 #[.slice A m c, .int .i64 (n : Int)] w fun e w' =>
   ∃ g, e = .returned (.slice (some ⟨g, 0, none⟩) n n) ∧ Own w' w.heap.size (.slice (some ⟨g, 0, none⟩) n n) (full l n) ∧ Below w.heap.size w w' := by
 rcases h with h | ⟨rfl, rfl, rfl⟩
 ·have hl : (full l (n : Int)).length = n := by
   unfold full
   rw [if_neg (by omega)]
   split
   ·simp [zs_len]
   ·simp [fullTo_len]
  have := full_any A m c (n : Int) l w h
  rw [hl] at this
  exact this
 ·have hf : full [] (n : Int) = zs n := by unfold full; rw [if_neg (by omega), if_pos rfl]; simp
  have hM := Tryz.prog_make n (by omega) w
  have hni : ¬ (n : Int) < 0 := by omega
  have hn2 : ¬ 20000 < (n : Int) := by omega
  have hnb : (n : Int) ≤ 20000 := by omega
  rw [hf]
  clear hf
  go_enter Tryz.func55, Tryz.ntmps55
  go_wp2
  refine wp_loop_rounds 1 ?_
  rw [rounds_succ]
  go_wp2
  all_goals
   go_ret
   exact ⟨_, rfl, Own.made w n (by unfold maxLen; omega), (Below.refl _ _).alloc (Nat.le_refl _) _⟩
section
variable {H : Type} {enc : TypeId × Value → H}
def InP.ok (W : World) (x : InP) : Prop := RdE W x.A x.n x.c x.l
end
end Go.Proofs.YtgjnmpjimhbfgaaGreatDoor
namespace Go.Proofs.YtgjnmpjimhbfgaaGreatDoor
set_option maxRecDepth 100000
open Go.RowKit
def InP.bytes (x : InP) : List UInt8 := full x.l (if x.sh then 100 else 256)
theorem InP.okP (B : Nat) (x : InP) (A : Option Addr) (n c : Nat) : okP B ⟨x.blk, A, n, c, x.bytes⟩ = (decide (0 ≤ x.blk) && decide (x.blk < B) && !x.sh) := by
 unfold Go.Proofs.YtgjnmpjimhbfgaaGreatDoor.okP InP.bytes
 simp only
 congr 1
 cases x.sh with
 | true =>
  have : (full x.l 100).length = 100 := by
   unfold full
   rw [if_neg (by omega)]
   split
   ·exact zs_len 100
   ·exact fullTo_len _ _ _
  simp [this]
 | false => simp [full256_len]
def ComPost (w : World) (v d L B c : Nat) (s : Dsk) (m : List (List UInt8)) (ps : List PutV) (e : Ending) (w' : World) : Prop :=
 (mayP B ps = false ∧ e = .returned (.int .i64 7) ∧ Old w w') ∨
 (mayP B ps = true ∧ ps = [] ∧ e = .returned (.int .i64 0) ∧ Old w w') ∨
 (mayP B ps = true ∧ 0 < ps.length ∧ e = .returned (.int .i64 (if (s.turnW headB c (after m (ps.map toPut))).1 = true then 0 else 48)) ∧ DkAt w' d L (s.turnW headB c (after m (ps.map toPut))).2 ∧
  VolB w' v d B (if (s.turnW headB c (after m (ps.map toPut))).1 = true then c + 1 else c) (!(s.turnW headB c (after m (ps.map toPut))).1) ∧ Turn [d, L, v] w w')
theorem commit_two (v d L B c k base : Nat) (A : Option Addr) (n cp : Nat) (ps : List PutV) (s : Dsk) (m : List (List UInt8)) (w : World) (hV : VolB w v d B c false) (hD : DkAt w d L s) (hK : KAt w)
  (hP : PutsOwn w base (.slice A n cp) ps) (hg : Good headB s c m) (hB : (s.n - 8) / 2 = B) (hc : c < 10000) (hf : FOk s k) (hk : k < 10000) :
  Calls Tryz.prog 34 #[.pointer (some ⟨v, 0, none⟩), .slice A n cp] w (ComPost w v d L B c s m ps) := by
 obtain rfl : n = ps.length := hP.1.len
 have h16 := hg.n16
 have h60 := hg.n60
 have hml : m.length = B := by rw [hg.len, hB]
 by_cases h0 : ps.length = 0
 ·have hps : ps = [] := List.eq_nil_of_length_eq_zero h0
  subst hps
  refine (commit_empty v d B c false A cp w hV (by omega)).mono ?_
  rintro e w' ⟨rfl, rfl⟩
  exact .inr (.inl ⟨by unfold mayP; simp, rfl, rfl, Old.refl _⟩)
 ·obtain ⟨P, rfl, hPA, _⟩ := hP.at_ (by omega)
  cases hm : mayP B ps with
  | false =>
   refine (commit_bad v d B c false P cp ps w hV hPA (by omega) hm).mono ?_
   rintro e w' ⟨rfl, hO⟩
   exact .inl ⟨hm, rfl, hO⟩
  | true =>
   refine (commit_any v d L B c k P cp ps s m w hV hD hK hPA (fun p hp ad had => ?_) hm hB h16 h60 hc hf hk hml (fun i b hi => by have := hg.side i b hi; rwa [hB] at this) (by omega)).mono ?_
   ·have hOw := hP.2 p hp
    exact hOw.beside hD ad.block (by rw [had]; rfl)
   ·rintro e w' ⟨h1, h2, h3, h4⟩
    exact .inr (.inr ⟨hm, by omega, h1, h2, h3, h4⟩)
theorem turn_live {s : Dsk} {c k : Nat} {m m2 : List (List UInt8)} (hg : Good headB s c m) (hf : FOk s k) (hu : s.fused = false) (hd : s.dead = false) (hl : m2.length = (s.n - 8) / 2) :
  ∃ s', s.turnW headB c m2 = (true, s') ∧ Good headB s' (c + 1) m2 ∧ FOk s' (k + 1000) ∧ s'.n = s.n ∧ s'.fused = false ∧ s'.dead = false := by
 obtain ⟨h1, h2, h3, _⟩ := turn_spec hg hf hl
 obtain ⟨ok, s', hs⟩ : ∃ ok s', s.turnW headB c m2 = (ok, s') := ⟨_, _, rfl⟩
 rw [hs] at h1 h2 h3
 obtain ⟨a1, a2⟩ := h1.alive hu hd
 simp only at a1 a2 h2 h3
 subst a2
 exact ⟨s', hs, h3 rfl, h2, h1.n, h1.fused.trans hu, a1⟩
end Go.Proofs.YtgjnmpjimhbfgaaGreatDoor
namespace Go.Proofs.YtgjnmpjimhbfgaaGreatDoor
set_option maxRecDepth 100000
open Go.RowKit Go.ChangeShapes Go.WideShapes Go.ChangeAt Go.Deep
section
variable {H : Type} {enc : TypeId × Value → H}
theorem open_sliceF {α : Type} (E : ETy α) (Good : α → Prop) {W : World} {fuel : Nat} {v : Value} {y : DataW H × List MemPlace} (hC : Tryz.prog.cellsOf E.t = E.sz)
  (hinv : ∀ n cs y, DataW.trod enc Tryz.prog W 0 (fun _ => true) true n E.t cs = some y → ∃ x, cs = E.cells x ∧ Good x)
  (hfirst : ∀ x, ∃ v, (E.cells x)[0]? = some v ∧ ∃ k n, v = .int k n ∨ ∃ b, v = .bool b)
  (hf : DataW.trod enc Tryz.prog W 0 (fun _ => true) true fuel E.ts [v] = some y) :
  ∃ A m c l, v = .slice A m c ∧ m ≤ maxLen ∧ (A = none → c = 0) ∧ RdC E W A m l ∧ (∀ x ∈ l, Good x) ∧ ((∀ q ∈ y.1.weights Tryz.prog E.ts, q ≤ reachBytes) → m * Tryz.prog.bytesOf E.t ≤ reachBytes) := by
 rcases open_slice E.und hf with ⟨hcs, hx⟩ | ⟨a, len, cap, m, n, D, Pl, hcs, _, hl, hm, hmm, hx, hr⟩
 ·simp at hcs
  subst hcs
  exact ⟨_, _, _, [], rfl, Nat.zero_le _, fun _ => rfl, ⟨rfl, .inl rfl⟩, by simp, by simp⟩
 ·simp at hcs
  subst hcs
  simp only [if_true] at hmm
  have hwt : (∀ q ∈ y.1.weights Tryz.prog E.ts, q ≤ reachBytes) → len * Tryz.prog.bytesOf E.t ≤ reachBytes := fun h => by
   have h1 := h ((((List.range len).map D).length + ((List.range (m - len)).map fun j => D (len + j)).length) * Tryz.prog.bytesOf E.t) (by rw [hx]; simp [DataW.weights, E.und])
   exact Nat.le_trans (Nat.mul_le_mul_right _ (by simp)) h1
  have hpos := E.pos
  have key0 : ∀ i, i < len → ∃ x, Good x ∧ ∀ (j : Nat) (u : Value), (E.cells x)[j]? = some u → W.cell? ((a.add (i * E.sz)).add j) = some u := by
   intro i hi
   obtain ⟨cs', hcell, htr⟩ := hr i (by omega)
   rw [hC] at hcell
   obtain ⟨x, hcs', hg⟩ := hinv _ _ _ htr
   obtain ⟨_, hcl, hat⟩ := World.cells?_some hcell
   refine ⟨x, hg, fun j u hu => ?_⟩
   have hj : j < E.sz := by
    rw [← E.len x]
    exact (List.getElem?_eq_some_iff.1 hu).1
   rw [hat j hj, hcs']
   exact hu
  rcases Nat.eq_zero_or_pos len with h0 | h0
  ·subst h0
   exact ⟨_, _, _, [], rfl, Nat.zero_le _, (fun h => nomatch h), ⟨rfl, .inl rfl⟩, by simp, hwt⟩
  ·obtain ⟨x0, _, k0⟩ := key0 0 h0
   obtain ⟨v0, hv0, hf0⟩ := hfirst x0
   have hsp0 := addr_of_cellE (k0 0 _ hv0) hf0
   have ha0 : (a.add (0 * E.sz)).add 0 = a := by rw [Nat.zero_mul]; rfl
   rw [ha0] at hsp0
   obtain ⟨ab, ao, sp⟩ := a
   obtain ⟨hsp, hlt⟩ := hsp0
   simp only at hsp hlt
   subst hsp
   have key : ∀ i, i < len → ∃ x, Good x ∧ ∀ (j : Nat) (u : Value), (E.cells x)[j]? = some u → W.cell? ⟨ab, ao + (i * E.sz + j), none⟩ = some u := by
    intro i hi
    obtain ⟨x, hg, g1⟩ := key0 i hi
    refine ⟨x, hg, fun j u hu => ?_⟩
    have := g1 j u hu
    rwa [Addr.add_lit, Addr.add_mid, Nat.add_assoc] at this
   let L := (List.range len).attach.map fun i => Classical.choose (key i.1 (List.mem_range.1 i.2))
   have hL : ∀ (j : Nat) (x : α), L[j]? = some x → Good x ∧ ∀ (i : Nat) (u : Value), (E.cells x)[i]? = some u → W.cell? ⟨ab, ao + (j * E.sz + i), none⟩ = some u := by
    intro j x hj
    simp only [L] at hj
    rw [List.getElem?_map] at hj
    cases hq : (List.range len).attach[j]? with
    | none => rw [hq] at hj; cases hj
    | some q =>
     rw [hq] at hj
     simp only [Option.map_some, Option.some.injEq] at hj
     have hqj : q.1 = j := by
      obtain ⟨hl2, hq2⟩ := List.getElem?_eq_some_iff.1 hq
      rw [← hq2]; simp
     have := Classical.choose_spec (key q.1 (List.mem_range.1 q.2))
     rw [hj, hqj] at this
     exact this
   have hLl : L.length = len := by simp [L]
   clear_value L
   refine ⟨_, len, cap, L, rfl, (show len ≤ maxLen by omega), (fun h => nomatch h), ⟨hLl, .inr ⟨ab, ao, rfl, hlt, fun j u hu => ?_⟩⟩, fun x hx => ?_, hwt⟩
   ·have hjl : j < L.length * E.sz := by
     rw [← E.all_len]
     exact (List.getElem?_eq_some_iff.1 hu).1
    have hq : j / E.sz < L.length := Nat.div_lt_of_lt_mul (by rw [Nat.mul_comm]; exact hjl)
    obtain ⟨x, hx⟩ : ∃ x, L[j / E.sz]? = some x := ⟨_, List.getElem?_eq_getElem hq⟩
    have hr' : j % E.sz < E.sz := Nat.mod_lt _ hpos
    have hj : j = j / E.sz * E.sz + j % E.sz := by rw [Nat.mul_comm]; exact (Nat.div_add_mod j E.sz).symm
    have h1 := E.all_get L _ x hx _ hr'
    rw [← hj, hu] at h1
    have := (hL _ x hx).2 _ u h1.symm
    rwa [← hj] at this
   ·obtain ⟨j, hj⟩ := List.getElem?_of_mem hx
    exact (hL j x hj).1
end
end Go.Proofs.YtgjnmpjimhbfgaaGreatDoor
namespace Go.Proofs.YtgjnmpjimhbfgaaGreatDoor
set_option maxRecDepth 100000
open Go.RowKit
theorem results_tmp4 {fn : Func} {t u v x : Tmp} (h : fn.results = #[.tmp t, .tmp u, .tmp v, .tmp x]) (tmps : Array Value) (P : Program) (w : World) :
  (results fn tmps).run P w = .ok (.tuple #[tmps.getD t undef, tmps.getD u undef, tmps.getD v undef, tmps.getD x undef]) w := by
 simp [results, h]
theorem cl_fuse {s : Dsk} {i : Nat} {l : List UInt8} (h : Cl s i l) (q : Int) : Cl (s.fuse q) i l := by
 unfold Dsk.fuse
 split
 ·exact h
 ·exact h
theorem good_fuse {s : Dsk} {c : Nat} {m : List (List UInt8)} (h : Good headB s c m) (q : Int) : Good headB (s.fuse q) c m := by
 obtain ⟨l, h2, h3⟩ := h.h2
 have hn := fuse_n s q
 exact ⟨by rw [hn]; exact h.n16, by rw [hn]; exact h.n60, by rw [hn]; exact h.len, cl_fuse h.h1 q, ⟨l, cl_fuse h2 q, h3⟩, fun i b hi => by rw [hn]; exact cl_fuse (h.side i b hi) q⟩
theorem fok_fuse {s : Dsk} {k : Nat} (h : FOk s k) (hd : s.dead = false) (q : Int) (hq : q < 1000) : FOk (s.fuse q) k := by
 unfold Dsk.fuse
 rw [if_neg (by simp [hd])]
 exact ⟨fun _ h => by simp only [decide_eq_false_iff_not] at h; simp only; omega, by simp only; omega, h.count⟩
theorem isM_cl {s : Dsk} {B c : Nat} {m : List (List UInt8)} (hm : m.length = B) (hg : ∀ (i : Nat) (b : List UInt8), m[i]? = some b → Cl s (8 + c % 2 * B + i) b) : isM s c m = true := by
 refine decide_eq_true fun i hi => ?_
 obtain ⟨b, hb⟩ : ∃ b, m[i]? = some b := ⟨_, List.getElem?_eq_getElem hi⟩
 have := (hg i b hb).1
 rw [← hm] at this
 rw [hb, this]; rfl
theorem turn_crash {s : Dsk} {c k : Nat} {m m2 : List (List UInt8)} (hg : Good headB s c m) (hf : FOk s k) (hl : m2.length = (s.n - 8) / 2) {ok : Bool} {s' : Dsk} (h : s.turnW headB c m2 = (ok, s')) :
  s'.n = s.n ∧ (ok = false → isM s' c m = true) ∧ (ok = true → ∀ kp, Good headB (s'.crash kp) (c + 1) m2) ∧ ∀ kp, Good headB (s'.crash kp) c m ∨ Good headB (s'.crash kp) (c + 1) m2 := by
 obtain ⟨h1, _, h3, h4⟩ := turn_spec hg hf hl
 rw [h] at h1 h3 h4
 simp only at h1 h3 h4
 refine ⟨h1.n, fun e => ?_, fun e kp => (h3 e).crash kp, fun kp => ?_⟩
 ·rcases h4 e with g | g
  ·exact isM_good (B := (s.n - 8) / 2) (by rw [h1.n]) (by rw [← hg.len]) g
  ·exact isM_cl (B := (s'.n - 8) / 2) (by rw [h1.n, ← hg.len]) g.side
 ·cases hok : ok with
  | true => exact .inr ((h3 hok).crash kp)
  | false =>
   rcases h4 hok with g | g
   ·exact .inl (g.crash kp)
   ·exact g.crash kp
structure Mnt (w : World) (d L v B n : Nat) (s : Dsk) (S : Nat) (ms : List (List UInt8)) : Prop where
 D : DkAt w d L s
 V : VolB w v d B n false
 G : Good headB s n ms
 sn : s.n = S
 de : s.dead = false
 fu : s.fused = false
theorem Mnt.below {w w' : World} {d L v B n S : Nat} {s : Dsk} {ms : List (List UInt8)} (h : Mnt w d L v B n s S ms) (hb : Old w w') : Mnt w' d L v B n s S ms :=
 ⟨h.D.below hb, Blk.below h.V hb, h.G, h.sn, h.de, h.fu⟩
structure Dev (w : World) (d L n : Nat) (s : Dsk) (S : Nat) (ms : List (List UInt8)) : Prop where
 D : DkAt w d L s
 G : Good headB s n ms
 sn : s.n = S
 de : s.dead = false
 fu : s.fused = false
theorem Dev.below {w w' : World} {d L n S : Nat} {s : Dsk} {ms : List (List UInt8)} (h : Dev w d L n s S ms) (hb : Old w w') : Dev w' d L n s S ms := ⟨h.D.below hb, h.G, h.sn, h.de, h.fu⟩
theorem Dev.mount {w : World} {d L n S B : Nat} {s : Dsk} {ms : List (List UInt8)} (h : Dev w d L n s S ms) (hB : (S - 8) / 2 = B) (hK : KAt w) (hn : n ≤ 100) :
  Calls Tryz.prog 33 #[.pointer (some ⟨d, 0, none⟩)] w fun e w' => ∃ v, e = .returned (.tuple #[.pointer (some ⟨v, 0, none⟩), .int .i64 0]) ∧ w.heap.size ≤ v ∧ Mnt w' d L v B n s S ms ∧ Dev w' d L n s S ms ∧ Old w w' := by
 refine (mount_good d L s n ms w h.D h.G (by omega) h.de hK).mono ?_
 rintro e w' ⟨v, rfl, h1, h2, h3⟩
 rw [h.sn, hB] at h2
 exact ⟨v, rfl, h1, ⟨h.D.below h3, h2, h.G, h.sn, h.de, h.fu⟩, h.below h3, h3⟩
theorem DkAt.turn {w w' : World} {d L : Nat} {s : Dsk} {S : List Nat} (h : DkAt w d L s) (ht : Turn S w w') (hd : d ∉ S) (hL : L ∉ S) (hS : ∀ g ∈ S, ∃ t cs, Blk w g t cs ∧ t ≠ 5) : DkAt w' d L s := by
 obtain ⟨xs, h⟩ := h
 exact ⟨xs, h.turn ht hd hL hS⟩
theorem Mnt.turn {w w' : World} {d L v B n S : Nat} {s : Dsk} {ms : List (List UInt8)} {T : List Nat} (h : Mnt w d L v B n s S ms) (ht : Turn T w w') (hd : d ∉ T) (hL : L ∉ T) (hv : v ∉ T) (hS : ∀ g ∈ T, ∃ t cs, Blk w g t cs ∧ t ≠ 5) : Mnt w' d L v B n s S ms :=
 ⟨h.D.turn ht hd hL hS, Blk.turn h.V ht hv, h.G, h.sn, h.de, h.fu⟩
theorem Mnt.lt {w : World} {d L v B n S : Nat} {s : Dsk} {ms : List (List UInt8)} (h : Mnt w d L v B n s S ms) : d < w.heap.size ∧ L < w.heap.size ∧ v < w.heap.size := ⟨h.D.lt.1, h.D.lt.2, Blk.lt h.V⟩
theorem Mnt.types {w : World} {d L v B n S : Nat} {s : Dsk} {ms : List (List UInt8)} (h : Mnt w d L v B n s S ms) : ∀ g ∈ [d, L, v], ∃ t cs, Blk w g t cs ∧ t ≠ 5 ∧ t ≠ 32 ∧ t ≠ 113 := by
 intro g hg
 obtain ⟨⟨c1, h1⟩, c2, h2⟩ := h.D.typed
 rcases List.mem_cons.1 hg with rfl | hg
 ·exact ⟨_, _, h1, by decide, by decide, by decide⟩
 rcases List.mem_cons.1 hg with rfl | hg
 ·exact ⟨_, _, h2, by decide, by decide, by decide⟩
 rw [List.mem_singleton] at hg
 subst hg
 exact ⟨_, _, h.V, by decide, by decide, by decide⟩
def rowB (ms : List (List UInt8)) (i : Nat) : List UInt8 := (ms[i]?).getD []
theorem Mnt.read {w : World} {d L v B n S : Nat} {s : Dsk} {ms : List (List UInt8)} (h : Mnt w d L v B n s S ms) (hB : (S - 8) / 2 = B) (hn : n ≤ 100) (i : Nat) (hi : i < B) :
  Calls Tryz.prog 38 #[.pointer (some ⟨v, 0, none⟩), .int .i64 (i : Int)] w fun e w' =>
   ∃ g c', e = .returned (.slice (some ⟨g, 0, none⟩) 256 c') ∧ Own w' w.heap.size (.slice (some ⟨g, 0, none⟩) 256 c') (rowB ms i) ∧ Old w w' := by
 have hsB : (s.n - 8) / 2 = B := by rw [h.sn, hB]
 have h60 := h.G.n60
 have hsd := side_in (n := s.n) (c := n) h.G.n16
 rw [hsB] at hsd
 refine (volread_any v d L B n false s w h.V h.D (by omega) (by omega) hsd i hi).mono ?_
 rintro e w' ⟨g, c', rfl, h1, _, h2⟩
 obtain ⟨b, hb⟩ : ∃ b, ms[i]? = some b := ⟨_, List.getElem?_eq_getElem (by rw [h.G.len, hsB]; exact hi)⟩
 have h3 := (h.G.side i b hb).1
 rw [hsB] at h3
 rw [h3] at h1
 refine ⟨g, c', rfl, ?_, h2⟩
 unfold rowB
 rw [hb]
 exact h1
theorem Mnt.commit {w : World} {d L v B n S : Nat} {s : Dsk} {ms : List (List UInt8)} (h : Mnt w d L v B n s S ms) (hB : (S - 8) / 2 = B) (hK : KAt w) (hn : n ≤ 100) (hf : FOk s 0) {base : Nat} {A : Option Addr} {cp : Nat} {ps : List PutV} (hP : PutsOwn w base (.slice A ps.length cp) ps)
  (hm : mayP B ps = true) (h0 : 0 < ps.length) :
  Calls Tryz.prog 34 #[.pointer (some ⟨v, 0, none⟩), .slice A ps.length cp] w fun e w' => ∃ s', e = .returned (.int .i64 0) ∧ Mnt w' d L v B (n + 1) s' S (after ms (ps.map toPut)) ∧ Turn [d, L, v] w w' := by
 refine (commit_two v d L B n 0 base A ps.length cp ps s ms w h.V h.D hK hP h.G (by rw [h.sn, hB]) (by omega) hf (by omega)).mono ?_
 obtain ⟨s', h1, h2, _, h4, h5, h6⟩ := turn_live (m2 := after ms (ps.map toPut)) h.G hf h.fu h.de (by rw [after_len]; exact h.G.len)
 rintro e w' (⟨hx, _⟩ | ⟨_, hx, _⟩ | ⟨_, _, rfl, hD5, hV5, hT5⟩)
 ·rw [hm] at hx; cases hx
 ·rw [hx] at h0; simp at h0
 ·rw [h1] at hD5 hV5 ⊢
  simp only [if_true, Bool.not_true] at hD5 hV5 ⊢
  exact ⟨s', trivial, ⟨hD5, hV5, h2, h4.trans h.sn, h6, h5⟩, hT5⟩
end Go.Proofs.YtgjnmpjimhbfgaaGreatDoor
namespace Go.Proofs.YtgjnmpjimhbfgaaGreatDoor
set_option maxRecDepth 100000
open Go.RowKit Go.ChangeShapes Go.WideShapes Go.ChangeAt Go.Deep
def WholeP (ps : List PutV) (k : Nat) : Prop := ps.length = k ∧ ∀ p ∈ ps, 0 ≤ p.blk ∧ p.blk < (k : Int) ∧ p.l.length = 256
theorem WholeP.snoc {ps : List PutV} {k : Nat} (h : WholeP ps k) {p : PutV} (h1 : p.blk = (k : Int)) (h2 : p.l.length = 256) : WholeP (ps ++ [p]) (k + 1) := by
 refine ⟨by rw [List.length_append, h.1]; rfl, fun q hq => ?_⟩
 rcases List.mem_append.1 hq with hq | hq
 ·obtain ⟨a, b, c⟩ := h.2 q hq
  exact ⟨a, by omega, c⟩
 ·rw [List.mem_singleton] at hq
  subst hq
  exact ⟨by omega, by omega, h2⟩
theorem WholeP.may {ps : List PutV} {B : Nat} (h : WholeP ps B) : mayP B ps = true := by
 unfold mayP
 rw [Bool.and_eq_true, decide_eq_true_iff, List.all_eq_true]
 refine ⟨by rw [h.1]; exact Nat.le_refl _, fun p hp => ?_⟩
 obtain ⟨a, b, c⟩ := h.2 p hp
 unfold okP
 simp [a, b, c]
theorem PutsOwn.grown {w w' : World} {base : Nat} {V : Value} {ps : List PutV} (h : PutsOwn w base V ps) (hg : w.grownBy w' V.ownBlock) (hk : OwnE Tryz.eP w' base V ps) : PutsOwn w' base V ps := by
 refine ⟨hk, fun p hp => (h.2 p hp).keep fun g' hg' => ?_⟩
 refine hg.block g' ((h.2 p hp).lt hg').2 (fun e => ?_)
 obtain ⟨cs, hbk⟩ := OwnE.blk h.1 (g := g') e.symm
 exact (h.2 p hp).ne hbk (by decide) hg'
end Go.Proofs.YtgjnmpjimhbfgaaGreatDoor
