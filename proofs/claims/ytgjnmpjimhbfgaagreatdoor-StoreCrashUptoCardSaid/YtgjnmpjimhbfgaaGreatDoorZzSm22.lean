/-
  objstore: Seal and Unseal.
-/
import Derived.Test.YtgjnmpjimhbfgaaGreatDoorZzSm19
import Derived.Test.YtgjnmpjimhbfgaaGreatDoorZzMb1
import Derived.Lib.SlBytesConst
namespace Go.Proofs.YtgjnmpjimhbfgaaGreatDoor
set_option maxRecDepth 100000
open Go.RowKit
def sealF (k iv b : List UInt8) : List UInt8 × Bool := if iv.length = 12 then (if (allF 5 true k (12 :: iv) b).2 = 0 then (iv ++ (allF 5 true k (12 :: iv) b).1, true) else ([], false)) else ([], false)
def unsealF (k s : List UInt8) : List UInt8 × Bool := if s.length < 12 then ([], false) else ((allF 5 false k (12 :: s.take 12) (s.drop 12)).1, (allF 5 false k (12 :: s.take 12) (s.drop 12)).2 == 0)
def SealRes (w : World) (r : List UInt8 × Bool) (e : Ending) (w' : World) : Prop := ∃ A n c, e = .returned (.tuple #[.slice A n c, .bool r.2]) ∧ Own w' w.heap.size (.slice A n c) r.1 ∧ Old w w'
theorem seal_any (A C B : Option Addr) (mk ck m cm n cn : Nat) (k iv b : List UInt8) (w : World) (hk : Rd w A mk ck k) (hp : Rd w C m cm iv) (hb : Rd w B n cn b) (hn : n ≤ 90000) (hm : m ≤ 1000) :
  Calls Tryz.prog 18 #[.slice A mk ck, .slice C m cm, .slice B n cn] w (SealRes w (sealF k iv b)) := by
 have hml := hp.1
 obtain ⟨TG, hTG⟩ : ∃ TG : Ending → World → Prop, SealRes w (sealF k iv b) = TG := ⟨_, rfl⟩
 by_cases h12 : m = 12
 ·subst h12
  have hpa := stparam_any C 12 cm iv w hp (by omega)
  have hal := (all_back5 k (12 :: iv) b).2
  obtain ⟨V, hV⟩ : ∃ V, allF 5 true k (12 :: iv) b = V := ⟨_, rfl⟩
  obtain ⟨X, v⟩ := V
  rw [hV] at hal
  have hS : sealF k iv b = if v = 0 then (iv ++ X, true) else ([], false) := by
   unfold sealF
   rw [if_pos hml.symm, hV]
  rw [hS] at hTG
  have hbl := hb.1
  have HH := Lib.hid (And.intro hk (And.intro hp (And.intro hb (And.intro hV (And.intro hml (And.intro hal hbl))))))
  clear hk hp hb hV hS hal hml hbl
  rw [show SealRes w (sealF k iv b) = TG by rw [← hTG, sealF, if_pos HH.out.2.2.2.2.1.symm, HH.out.2.2.2.1]]
  go_enter Tryz.func18, Tryz.ntmps18
  go_wp2_with fail
  refine hpa.mono ?_
  rintro e w1 ⟨A1, n1, c1, rfl, hO1, hb1⟩
  have hn1 : n1 ≤ 1000 := by have h1 := hO1.len; have h2 := HH.out.2.2.2.2.1; rw [List.length_cons] at h1; omega
  have H1 := Lib.hid (And.intro hO1 hb1)
  clear hO1 hb1 hpa
  go_wp2_with fail
  refine (modesAll_any 5 true A A1 B mk ck n1 c1 n cn k (12 :: iv) b w1 (HH.out.1.below H1.out.2) H1.out.1.rd (HH.out.2.2.1.below H1.out.2) (by omega) (by omega)).mono ?_
  rintro e w2 ⟨A2, n2, c2, rfl, hO2, hB2⟩
  rw [HH.out.2.2.2.1] at hO2
  simp only [HH.out.2.2.2.1]
  have hn2 : n2 ≤ 100000 := by have h1 := hO2.len; have h2 := HH.out.2.2.2.2.2; simp only at h1 h2; omega
  have H2 := Lib.hid (And.intro hO2 (Old.trans H1.out.2 hB2))
  clear hO2 hB2
  by_cases hv : v = 0
  ·subst hv
   rw [if_pos rfl] at hTG
   go_wp2_with fail
   refine (rclone_own C 12 cm iv w2 (HH.out.2.1.below H2.out.2) (by omega)).mono ?_
   rintro e w3 ⟨A3, c3, rfl, hO3, hB3⟩
   have H3 := Lib.hid (And.intro hO3 (And.intro hB3 (Old.trans H2.out.2 hB3)))
   clear hO3 hB3
   obtain ⟨n3, hn3⟩ : ∃ n3, iv.length = n3 := ⟨_, rfl⟩
   rw [hn3] at H3
   rw [hn3]
   have hn3b : n3 ≤ 12 := by have := HH.out.2.2.2.2.1; omega
   have Hn3 := Lib.hid hn3
   clear hn3
   go_wp2_with (at_builtin; refine wp_app2 (.tmp 24) (.tmp 25) w2.heap.size (.slice A3 n3 c3) iv H3.out.1 H3.out.2.1.size A2 n2 c2 X (H2.out.1.rd.below H3.out.2.1) (by have h1 := Hn3.out; have h2 : X.length ≤ b.length + 32 := HH.out.2.2.2.2.2.1; have h3 := HH.out.2.2.2.2.2.2; omega) rfl rfl rfl rfl ?_; intro A9 n9 c9 w9 hn9 hG9; have H9 := Lib.hid hG9; clear hG9 hn9)
   rw [← hTG]
   exact ⟨A9, n9, c9, rfl, H9.out.own.mono H2.out.2.size, Old.trans H2.out.2 (Below.trans H3.out.2.1 H9.out.below)⟩
  ·have hvb : (v != 0) = true := by simpa using hv
   rw [if_neg hv] at hTG
   clear hv
   go_wp2_with fail
   rw [← hTG]
   exact ⟨none, 0, 0, rfl, Own.nil _ _, H2.out.2⟩
 ·have t1 : ((m : Int) != 12) = true := by simp; omega
  have t2 : ¬ (m : Int) = 12 := by omega
  have hS : sealF k iv b = ([], false) := by
   unfold sealF
   rw [if_neg (by omega)]
  rw [hTG]
  rw [hS] at hTG
  clear hk hp hb hml h12 hS
  go_enter Tryz.func18, Tryz.ntmps18
  go_wp2_with fail
  rw [← hTG]
  exact ⟨none, 0, 0, rfl, Own.nil _ _, Old.refl _⟩
theorem unseal_any (A C : Option Addr) (mk ck m cm : Nat) (k s : List UInt8) (w : World) (hk : Rd w A mk ck k) (hp : Rd w C m cm s) (hm : m ≤ 90000) :
  Calls Tryz.prog 19 #[.slice A mk ck, .slice C m cm] w (SealRes w (unsealF k s)) := by
 have hml := hp.1
 obtain ⟨TG, hTG⟩ : ∃ TG : Ending → World → Prop, SealRes w (unsealF k s) = TG := ⟨_, rfl⟩
 by_cases h12 : 12 ≤ m
 ·have t1 : ¬ (m : Int) < 12 := by omega
  have t2 : decide ((m : Int) < 12) = false := decide_eq_false t1
  obtain ⟨hS1, hR1⟩ := hp.st_to (k := 12) h12
  rw [show ((12 : Nat) : Int) = 12 from rfl] at hS1
  obtain ⟨A', n', c', hn', hS2, hR2, _⟩ := hp.cut_ex2 (k := 12) h12
  rw [show ((12 : Nat) : Int) = 12 from rfl] at hS2
  have hpa : ∀ W, Old w W → Calls Tryz.prog 45 #[.slice C 12 cm] W (fun e w' => ∃ A' n' c', e = .returned (.slice A' n' c') ∧ Own w' W.heap.size (.slice A' n' c') (12 :: s.take 12) ∧ Old W w') := fun W ho => stparam_any C 12 cm (s.take 12) W (hR1.below ho) (by omega)
  obtain ⟨V, hV⟩ : ∃ V, allF 5 false k (12 :: s.take 12) (s.drop 12) = V := ⟨_, rfl⟩
  obtain ⟨X, v⟩ := V
  have hS : unsealF k s = (X, v == 0) := by
   unfold unsealF
   rw [if_neg (by omega), hV]
  have HH := Lib.hid (And.intro hk (And.intro hp (And.intro hR2 (And.intro hV hS))))
  clear hk hp hR1 hR2 hV hS hml h12
  rw [hTG]
  have hnb : n' ≤ 90000 := by omega
  clear hn' hm
  go_enter Tryz.func19, Tryz.ntmps19
  go_wp2_with fail
  refine region_old (by kernel_rfl) (fun wd hHeld hSz => ?_)
  have HSz := Lib.hid hSz
  clear hSz
  refine tkS 0 hHeld ?_
  refine tkS 1 hHeld ?_
  refine tkS 2 hHeld ?_ (hy := by intro wq hSw; have hRun := hS1 wq; clear hSw; go_simp; try with_reducible rfl)
  refine tkS 4 hHeld ?_
  refine tkS 5 hHeld ?_ (hy := by intro wq hSw; have hRun := hS2 wq; clear hSw; go_simp; try with_reducible rfl)
  refine rdL 3 (fun K hK => ?_)
  go_simp
  refine (hpa _ hHeld).mono ?_
  rintro e w1 ⟨A1, n1, c1, rfl, hO1, hb1⟩
  have hn1 : n1 ≤ 1000 := by have h1 := hO1.len; rw [List.length_cons, List.length_take] at h1; omega
  have H1 := Lib.hid (And.intro hO1 (Old.trans hHeld hb1))
  clear hO1 hb1 hpa
  refine hK.out _ _ H1.out.2 (fun hHeld => ?_)
  clear hK K
  try simp only [Act.put, sA, sB, sC]
  refine rdL 6 (fun K hK => ?_)
  go_simp
  refine (modesAll_any 5 false A A1 A' mk ck n1 c1 n' c' k (12 :: s.take 12) (s.drop 12) w1 (HH.out.1.below H1.out.2) H1.out.1.rd (HH.out.2.2.1.below H1.out.2) (by omega) (by omega)).mono ?_
  rintro e w2 ⟨A2, n2, c2, rfl, hO2, hB2⟩
  rw [HH.out.2.2.2.1] at hO2
  simp only [HH.out.2.2.2.1]
  have H2 := Lib.hid (And.intro hO2 (Old.trans H1.out.2 hB2))
  clear hO2 hB2
  refine hK.out _ _ H2.out.2 (fun hHeld => ?_)
  clear hK K
  try simp only [Act.put, sA, sB, sC]
  refine tkS 7 hHeld ?_
  refine tkS 8 hHeld ?_
  refine tkS 9 hHeld ?_
  refine tkS 10 hHeld ?_
  refine tkS 11 hHeld ?_
  refine wpAnyH_done (by kernel_rfl) ?_ _
  refine NoPanic.normal ?_
  try go_at_K
  go_wp2_with fail
  rw [← hTG, HH.out.2.2.2.2]
  exact ⟨A2, n2, c2, rfl, H2.out.1.mono H1.out.2.size, H2.out.2⟩
 ·have t1 : (m : Int) < 12 := by omega
  have t2 : decide ((m : Int) < 12) = true := decide_eq_true t1
  have hS : unsealF k s = ([], false) := by
   unfold unsealF
   rw [if_pos (by omega)]
  rw [hTG]
  rw [hS] at hTG
  clear hk hp hml h12 hS
  go_enter Tryz.func19, Tryz.ntmps19
  go_wp2_with fail
  rw [← hTG]
  exact ⟨none, 0, 0, rfl, Own.nil _ _, Old.refl _⟩
attribute [local go_sem] Oper.semAt_some
theorem rd_cst {w : World} {cs : Array Value} {fr : Nat × Nat} (l : List UInt8) (hcs : cs = (l.map B).toArray) (n : Nat) (hn : n = l.length) (hl : l.length ≤ 1000000) : Rd (w.alloc (.cells cs 5 fr)) (some ⟨w.heap.size, 0, none⟩) n n l := by
 subst hcs hn
 exact Rd.of_blk (heap_alloc_new w _) (by unfold maxLen; omega)
def ComLive (w : World) (x v d L n S k : Nat) (M' : List SRec) (e : Ending) (w' : World) : Prop :=
 ∃ s' ms' b', e = .returned (.int .i64 0) ∧ StAt w' x v d L b' (n + 1) S s' ms' M' ∧ FOk s' (k + 1000) ∧ w.heap.size ≤ b' ∧ KAt w' ∧ Turn [x, d, L, v] w w'
theorem stcommit_live {w : World} {x v d L b n S k : Nat} {s : Dsk} {ms : List (List UInt8)} {M : List SRec} (h : StAt w x v d L b n S s ms M) (A : Option Addr) (m c : Nat) (cs : List PC) (hC : ChsAt w A m cs) (hm0 : 0 < m) (hm : m ≤ 4096) (hok : cs.all okC = true)
  (hld : sload (schgs M cs) ≤ 64 * S) (hK : KAt w) (hn : n ≤ 99) (hf : FOk s k) (hk : k < 10000) (h0 : 64 ≤ S) (h1 : S ≤ 1000) (hN : M.length ≤ 90000) (hlen : ∀ q ∈ cs, q.l.length ≤ 100000) :
  Calls Tryz.prog 14 #[.pointer (some ⟨x, 0, none⟩), .slice A m c] w (ComLive w x v d L n S k (schgs M cs)) := by
 refine (stcommit_gen h.q A m c cs hC hm0 hm hok hld hK hn hf hk h0 h1 hN hlen).mono ?_
 rintro e w' ⟨ok, s', b', hts, rfl, hD, hV, hB, hM', _, hb', hK', hT⟩
 have hgl := h.mnt.G.len
 obtain ⟨s2, e2, hG2, hF2, hn2, hfu2, hde2⟩ := turn_live (m2 := after ms (putsP ms (pagesB (schgs M cs)) (pageN (pagesB (schgs M cs))))) h.mnt.G hf h.mnt.fu h.mnt.de (by rw [after_len]; exact hgl)
 rw [hts] at e2
 injection e2 with ea eb
 subst ea eb
 rw [h.mnt.sn] at hgl
 have hfi := schgs_fine (fun p hp => ⟨h.fine.ids p hp, h.fine.len p hp⟩) hok
 refine ⟨s', _, b', rfl, ⟨hB, ⟨hD, hV, hG2, hn2.trans h.mnt.sn, hde2, hfu2⟩, hM', ⟨fun p hp => (hfi p hp).1, fun p hp => (hfi p hp).2, by omega⟩, ?_, hld⟩, hF2, hb', hK', hT⟩
 refine Vol.after h.vol.full ?_
 rw [hgl]
 exact room_fits hld h0
theorem iterFN (f : FuncId) (lb : Array Value) (w : World) : (binOp .eql 48 (.func (.func f) #[] lb) .nilFunc).run Tryz.prog w = .ok (.bool false) w := by kernel_rfl
theorem mark_any {w : World} {g n c : Nat} {C : Array Value} (h : Blk w g 5 C) : ∃ w', (convert 32 32 (.slice (some ⟨g, 0, none⟩) n c)).run Tryz.prog w = .ok (.slice (some ⟨g, 0, none⟩) n c) w' ∧ w'.heap[g]? = some (.cells C 5 (C.size, C.size + 1)) ∧ Turn [g] w w' := by
 have hsh : w.shape? g = some (5, C.size) := by unfold World.shape?; rw [h]
 refine ⟨w.freeze ⟨g, C.size, none⟩ 1, ?_, ?_, ?_⟩
 ·simp [convert, run_underlying Tryz.underlying32, run_underlying Tryz.underlying5, markStringish, hsh]
 ·unfold World.freeze
  rw [if_neg (by decide)]
  simp only [Array.getElem?_modify]
  rw [if_pos trivial, h]
  rfl
 ·unfold World.freeze
  rw [if_neg (by decide)]
  exact ⟨rfl, rfl, rfl, by simp, fun k _ hk => by simp only [Array.getElem?_modify]; rw [if_neg (by simp at hk; exact fun e => hk e.symm)]⟩
structure Z3 (w0 W : World) (p0 p1 p2 : Option Nat) (mk : Bool) : Prop where
 old : Old w0 W
 z0 : ∀ g, p0 = some g → Rd W (some ⟨g, 0, none⟩) 16 16 (zs 16)
 z1 : ∀ g, p1 = some g → Rd W (some ⟨g, 0, none⟩) 12 12 (zs 12)
 z2 : ∀ g, p2 = some g → w0.heap.size ≤ g ∧ g < W.heap.size ∧ (if mk then Rd W (some ⟨g, 0, none⟩) 1 1 [109] else Blk W g 5 #[.int .u8 109])
 ne : ∀ g h, p2 = some g → (p0 = some h ∨ p1 = some h) → h ≠ g
 lt : ∀ h, (p0 = some h ∨ p1 = some h) → h < W.heap.size
theorem Z3.start {w0 W : World} (h : Old w0 W) : Z3 w0 W none none none false := ⟨h, (fun _ e => by cases e), (fun _ e => by cases e), (fun _ e => by cases e), (fun _ _ e => by cases e), (fun _ e => by rcases e with e | e <;> cases e)⟩
theorem Z3.more {w0 W W' : World} {p0 p1 p2 : Option Nat} {mk : Bool} (h : Z3 w0 W p0 p1 p2 mk) (hb : Old W W') : Z3 w0 W' p0 p1 p2 mk :=
 ⟨Old.trans h.old hb, fun g e => (h.z0 g e).below hb, fun g e => (h.z1 g e).below hb, fun g e => ⟨(h.z2 g e).1, Nat.lt_of_lt_of_le (h.z2 g e).2.1 hb.size, by
  have := (h.z2 g e).2.2
  cases mk with
  | true => exact Rd.below this hb
  | false => exact Blk.below this hb⟩, h.ne, fun x e => Nat.lt_of_lt_of_le (h.lt x e) hb.size⟩
section
variable {ops : Array Oper} {o : Oper} {a : Act} {w0 w : World} {K : Act → World → Prop} {Q : Exit → Act → World → Prop} {E : Prop} {p0 p1 p2 : Option Nat} {mk : Bool}
theorem step_z16 (h : Z3 w0 w none p1 p2 mk) (hg : o.guard = none) (ho : o.op = .makeSlice 32 (.const (.int .i64 16)) (.const (.int .i64 16)))
  (hK : ∀ w', Z3 w0 w' (some w.heap.size) p1 p2 mk → K (a.put o.dst (.slice (some ⟨w.heap.size, 0, none⟩) 16 16)) w') : if Region.wanted o (yielded ops a.tmps) = true then Oper.wp Tryz.prog o a w K Q else E := by
 rw [if_pos (by simp [Region.wanted, hg])]
 have hr := Tryz.prog_make 16 (by omega) w
 rw [show ((16 : Nat) : Int) = 16 from rfl] at hr
 unfold Oper.wp
 simp [execOp, ho, Act.eval, hr, Result.andThen]
 have hm := h.more ((Old.refl w).alloc (.cells (madeCells #[.int .u8 0] 16) 5))
 refine hK _ ⟨hm.old, fun g e => ?_, hm.z1, hm.z2, fun g x e e2 => ?_, fun x e => ?_⟩
 ·cases e; exact (Own.made w 16 (by unfold maxLen; omega)).rd
 ·rcases e2 with e2 | e2
  ·cases e2; have := (h.z2 g e).2.1; omega
  ·exact h.ne g x e (.inr e2)
 ·rcases e with e | e
  ·cases e; simp
  ·exact hm.lt x (.inr e)
theorem step_z12 (h : Z3 w0 w p0 none p2 mk) (hg : o.guard = none) (ho : o.op = .makeSlice 32 (.const (.int .i64 12)) (.const (.int .i64 12)))
  (hK : ∀ w', Z3 w0 w' p0 (some w.heap.size) p2 mk → K (a.put o.dst (.slice (some ⟨w.heap.size, 0, none⟩) 12 12)) w') : if Region.wanted o (yielded ops a.tmps) = true then Oper.wp Tryz.prog o a w K Q else E := by
 rw [if_pos (by simp [Region.wanted, hg])]
 have hr := Tryz.prog_make 12 (by omega) w
 rw [show ((12 : Nat) : Int) = 12 from rfl] at hr
 unfold Oper.wp
 simp [execOp, ho, Act.eval, hr, Result.andThen]
 have hm := h.more ((Old.refl w).alloc (.cells (madeCells #[.int .u8 0] 12) 5))
 refine hK _ ⟨hm.old, hm.z0, fun g e => ?_, hm.z2, fun g x e e2 => ?_, fun x e => ?_⟩
 ·cases e; exact (Own.made w 12 (by unfold maxLen; omega)).rd
 ·rcases e2 with e2 | e2
  ·exact h.ne g x e (.inl e2)
  ·cases e2; have := (h.z2 g e).2.1; omega
 ·rcases e with e | e
  ·exact hm.lt x (.inl e)
  ·cases e; simp
theorem step_zm (h : Z3 w0 w p0 p1 none false) (hg : o.guard = none) (ho : o.op = .buildSlice 32 1 #[(0, .const (.int .u8 109))])
  (hK : ∀ w', Z3 w0 w' p0 p1 (some w.heap.size) false → K (a.put o.dst (.slice (some ⟨w.heap.size, 0, none⟩) 1 1)) w') : if Region.wanted o (yielded ops a.tmps) = true then Oper.wp Tryz.prog o a w K Q else E := by
 rw [if_pos (by simp [Region.wanted, hg])]
 have hm := h.more ((Old.refl w).alloc (.cells #[.int .u8 109] 5))
 have hb : Z3 w0 (w.alloc (.cells #[.int .u8 109] 5)) p0 p1 (some w.heap.size) false := ⟨hm.old, hm.z0, hm.z1, fun g e => by
  cases e
  exact ⟨h.old.size, by simp, Blk.new w _ _⟩, fun g x e e2 => by
  cases e
  have := h.lt x e2
  omega, hm.lt⟩
 have hk := hK _ hb
 clear hK hm hb h
 unfold Oper.wp
 simp [execOp, ho, Act.eval, go_sem, Result.andThen]
 exact hk
theorem step_zk {g : Nat} (h : Z3 w0 w p0 p1 (some g) false) (t : Tmp) (hg : o.guard = none) (ho : o.op = .convert 32 32 (.tmp t)) (ht : a.eval (.tmp t) = .slice (some ⟨g, 0, none⟩) 1 1)
  (hK : ∀ w', Z3 w0 w' p0 p1 (some g) true → K (a.put o.dst (.slice (some ⟨g, 0, none⟩) 1 1)) w') : if Region.wanted o (yielded ops a.tmps) = true then Oper.wp Tryz.prog o a w K Q else E := by
 rw [if_pos (by simp [Region.wanted, hg])]
 obtain ⟨h1, h2, h3⟩ := h.z2 g rfl
 obtain ⟨w', hr, hb, hT⟩ := mark_any (n := 1) (c := 1) h3
 have ht' : a.tmps[t]?.getD undef = .slice (some ⟨g, 0, none⟩) 1 1 := by simpa [Act.eval] using ht
 unfold Oper.wp
 simp [execOp, ho, ht, hr, Result.andThen]
 refine hK _ ⟨below_turn h.old hT (by intro u hu; simp at hu; subst hu; exact h1) h.old.size, fun x e => (h.z0 x e).turn hT (fun ad ea hm => ?_), fun x e => (h.z1 x e).turn hT (fun ad ea hm => ?_), fun x e => ?_, h.ne, fun x e => Nat.lt_of_lt_of_le (h.lt x e) hT.size⟩
 ·cases ea; simp at hm; exact h.ne g x rfl (.inl e) hm
 ·cases ea; simp at hm; exact h.ne g x rfl (.inr e) hm
 ·cases e
  exact ⟨h1, Nat.lt_of_lt_of_le h2 hT.size, Rd.of_blk (l := [109]) hb (by unfold maxLen; simp)⟩
end
theorem chs_one {w : World} (id : Int) (A : Option Addr) (n c : Nat) (l : List UInt8) (h : Rd w A n c l) (hid : wfI id) : ChsAt (w.alloc (.cells #[.int .i64 id, .bool false, .slice A n c] 34)) (some ⟨w.heap.size, 0, none⟩) 1 [⟨id, false, A, n, c, l⟩] :=
 ⟨Blk.rdC Tryz.eC (Blk.new w 34 #[.int .i64 id, .bool false, .slice A n c]) rfl, fun p hp => by rw [List.mem_singleton] at hp; subst hp; exact h.below ((Old.refl w).alloc _), fun p hp => by rw [List.mem_singleton] at hp; subst hp; exact hid⟩
theorem sealF_ok (k iv b : List UInt8) (hk : keyOk k) (hi : iv.length = 12) : (sealF k iv b).2 = true ∧ unsealF k (sealF k iv b).1 = (b, true) := by
 have hab := all_back 5 k (12 :: iv) b (fun h => by omega)
 have hp : parOk 5 (12 :: iv) := by
  unfold parOk gcmOk
  simp
  omega
 have hz : (allF 5 true k (12 :: iv) b).2 = 0 := by
  unfold allF
  rw [if_neg (by decide), if_neg (fun h => h hk)]
  show (if ¬ parOk 5 (12 :: iv) then (([] : List UInt8), (113 : Int)) else (if ((PSof 5 true k (12 :: iv)).fin b).2 = 0 then ((PSof 5 true k (12 :: iv)).front b ++ ((PSof 5 true k (12 :: iv)).fin b).1, 0) else ([], ((PSof 5 true k (12 :: iv)).fin b).2))).2 = 0
  rw [if_neg (fun h => h hp)]
  have hf : ((PSof 5 true k (12 :: iv)).fin b).2 = 0 := by
   unfold StmS.fin
   rw [if_neg (show ¬ (PSof 5 true k (12 :: iv)).mode = 4 from (by show ¬ (5 : Nat) = 4; decide)), if_pos (show (PSof 5 true k (12 :: iv)).mode = 5 from rfl), if_pos (show (PSof 5 true k (12 :: iv)).enc = true from rfl)]
  rw [if_pos hf]
 have hb := hab.2.1 hz
 unfold sealF
 rw [if_pos hi, if_pos hz]
 refine ⟨rfl, ?_⟩
 unfold unsealF
 simp only
 rw [if_neg (by rw [List.length_append]; omega), List.take_append_of_le_length (by omega), List.take_of_length_le (by omega), List.drop_append_of_le_length (by omega), List.drop_of_length_le (by omega), List.nil_append, hb]
 rfl
theorem sealF_len (k iv b : List UInt8) : (sealF k iv b).1.length ≤ iv.length + b.length + 32 := by
 have hal := (all_back 5 k (12 :: iv) b (fun h => by omega)).2.2
 unfold sealF
 split
 ·split
  ·simp only [List.length_append]; omega
  ·simp
 ·simp
set_option maxHeartbeats 8000000 in
theorem stbegun_any (w : World) (hK : KAt w) : Calls Tryz.prog 9 #[] w fun e w' => e = .returned (.bool true) ∧ Old w w' := by
 have h80 := dk_new 80 (by omega) (by omega) w
 rw [show ((80 : Nat) : Int) = 80 from rfl] at h80
 have kc := fun (w : World) (C : Array Value) (n c : Nat) => Lib.run_convert_bytes_const (P := Tryz.prog) w 32 5 C n c Tryz.underlying32 Tryz.underlying5
 have hne := neStore
 have HW := Lib.hid hK
 clear hK
 refine calls_of_marks Tryz.func9 rfl ?_
 simp only [Tryz.ntmps9, List.size_toArray, List.length_nil, Nat.reduceSub, Array.replicate_succ, Array.replicate_zero, List.push_toArray, List.append_toArray, List.nil_append, List.cons_append]
 go_wp2_with fail
 refine h80.mono ?_
 rintro e w1 ⟨d, L, rfl, hD1, hdw, hLw, hO1⟩
 have hfm := stformat_any d L 80 (Dsk.new 80) w1 hD1 (zeroD_new 80) rfl (by omega) (by omega) (new_fok 80) ⟨rfl, rfl⟩ (HW.out.below hO1)
 have H1 := Lib.hid (And.intro hdw (And.intro hLw hO1))
 clear hD1 hdw hLw hO1 h80
 go_wp2_with fail
 refine hfm.mono ?_
 rintro e w2 ⟨s2, ms2, rfl, hDv2, hV2, hl2, hF2, hK2, hT2⟩
 have hO2 : Old w w2 := below_turn H1.out.2.2 hT2 (by have h1 := H1.out.1; have h2 := H1.out.2.1; simp; omega) H1.out.2.2.size
 have hop := stopen_any hDv2 (by omega) (by omega) (by omega) hV2 Fine.nil Rising.nil (by simp [sload]) (by simp) hK2
 have H2 := Lib.hid (And.intro hF2 (And.intro hK2 hO2))
 clear hfm hDv2 hV2 hl2 hF2 hK2 hT2 hO2
 go_wp2_with fail
 refine hop.mono ?_
 rintro e w3 ⟨x, v, b, rfl, hS3, hx3, hv3, hb3, hO3⟩
 have hO3w : Old w w3 := Old.trans H2.out.2.2 hO3
 have hA3 := (rd_cst (w := w3) (fr := (3, 4)) [97, 98, 99] (cs := #[.int .u8 97, .int .u8 98, .int .u8 99]) rfl 3 rfl (by simp))
 have hcs := chs_one 7 _ 3 3 _ hA3 (by unfold wfI; decide)
 obtain ⟨w4, hw4⟩ : ∃ w4, (w3.alloc (.cells #[.int .u8 97, .int .u8 98, .int .u8 99] 5 (3, 4))).alloc (.cells #[.int .i64 7, .bool false, .slice (some ⟨w3.heap.size, 0, none⟩) 3 3] 34) = w4 := ⟨_, rfl⟩
 have hO4 : Old w3 w4 := by rw [← hw4]; exact ((Old.refl _).alloc _).alloc _
 rw [hw4, show (w3.alloc (.cells #[.int .u8 97, .int .u8 98, .int .u8 99] 5 (3, 4))).heap.size = w3.heap.size + 1 by simp] at hcs
 have hcm := stcommit_live (hS3.below hO4) _ 1 1 _ hcs (by omega) (by omega) rfl (by show 3 + 8 + 0 ≤ 64 * 80; omega) ((H2.out.2.1.below hO3).below hO4) (by omega) H2.out.1 (by omega) (by omega) (by omega) (by simp) (fun q hq => by rw [List.mem_singleton] at hq; subst hq; simp)
 have hsz : w.heap.size ≤ d ∧ w.heap.size ≤ L := ⟨H1.out.1, H1.out.2.1⟩
 have H3 := Lib.hid (And.intro (Nat.le_trans H2.out.2.2.size hx3) (And.intro (Nat.le_trans H2.out.2.2.size hv3) (And.intro (Old.trans hO3w hO4) hsz)))
 clear hop hS3 hx3 hv3 hb3 hO3 hO3w hA3 hcs hO4 hsz
 go_wp2_with fail
 try rw [hw4]
 clear hw4
 refine hcm.mono ?_
 rintro e w5 ⟨s5, ms5, b5, rfl, hS5, hF5, hb5, hK5, hT5⟩
 have hO5 : Old w w5 := below_turn H3.out.2.2.1 hT5 (by intro u hu; simp at hu; rcases hu with rfl | rfl | rfl | rfl; exact H3.out.1; exact H3.out.2.2.2.1; exact H3.out.2.2.2.2; exact H3.out.2.1) H3.out.2.2.1.size
 rw [show schgs [] [⟨7, false, some ⟨w3.heap.size, 0, none⟩, 3, 3, [97, 98, 99]⟩] = [(7, [97, 98, 99])] from rfl] at hS5
 have hgt := Get_any x b5 _ _ _ _ 7 w5 hS5.blk hS5.map (by unfold wfI; decide) (by intro q hq; rw [List.mem_singleton] at hq; subst hq; simp)
 rw [show sget [(7, [97, 98, 99])] 7 = some [97, 98, 99] from rfl] at hgt
 have H5 := Lib.hid (And.intro hS5 (And.intro hO5 hK5))
 clear hcm hS5 hF5 hb5 hK5 hT5 hO5
 go_wp2_with fail
 refine hgt.mono ?_
 rintro e w6 ⟨A6, c6, rfl, hO6, hB6⟩
 rw [show (some [97, 98, 99] : Option (List UInt8)).getD [] = [97, 98, 99] from rfl, show ([97, 98, 99] : List UInt8).length = 3 from rfl] at hO6
 rw [show (some [97, 98, 99] : Option (List UInt8)).getD [] = [97, 98, 99] from rfl, show ([97, 98, 99] : List UInt8).length = 3 from rfl]
 have H6 := Lib.hid (And.intro hO6 (And.intro (H5.out.1.below hB6) (Old.trans H5.out.2.1 hB6)))
 clear hgt hO6 hB6
 go_wp2_with fail
 refine (stall_any (some ⟨x, 0, none⟩) w6).mono ?_
 rintro e w7 ⟨rfl, hw7⟩
 have hif := iterFN
 have hO7 : Old w6 w7 := by rw [hw7]; exact (Old.refl _).alloc _
 have hbx7 : w7.cell? ⟨w6.heap.size, 0, none⟩ = some (.pointer (some ⟨x, 0, none⟩)) := by rw [hw7]; exact (Blk.new w6 28 #[.pointer (some ⟨x, 0, none⟩)]).cell 0
 have hs7 : w7.heap.size = w6.heap.size + 1 := by rw [hw7]; simp
 obtain ⟨kx, hkx⟩ : ∃ kx, w7.heap.size = kx := ⟨_, rfl⟩
 obtain ⟨w8, hw8⟩ : ∃ w8, w7.alloc (.cells #[.int .i64 0] 3) = w8 := ⟨_, rfl⟩
 have hk8 : Blk w8 kx 3 #[.int .i64 0] := by rw [← hw8, ← hkx]; exact Blk.new _ _ _
 have hO8 : Old w7 w8 := by rw [← hw8]; exact (Old.refl _).alloc _
 have hS7 := H6.out.2.1.below hO7
 have hS8 := hS7.below hO8
 have hit := all_iter w7 w6.heap.size x b5 _ _ _ _ hbx7 (by omega) hS7.blk hS7.map (by simp) (by intro q hq; rw [List.mem_singleton] at hq; subst hq; simp)
 rw [show ([(7, [97, 98, 99])] : List SRec).length = 1 from rfl] at hit
 have hcn := CntI.start hk8
 rw [hkx] at hit
 have hk8s : w8.heap.size = kx + 1 := by rw [← hw8, ← hkx]; simp
 have HI := Lib.hid (And.intro hit (And.intro hcn (And.intro hS8 (And.intro (Old.trans H6.out.2.2 (Old.trans hO7 hO8)) (And.intro hO8 (And.intro hO7 hk8s))))))
 have hkw : w.heap.size ≤ kx := by rw [← hkx]; exact (Old.trans H6.out.2.2 hO7).size
 have HKW := Lib.hid (And.intro hkw (And.intro hkx hw8))
 clear hw7 hbx7 hk8 hS8 hS7 hit hcn hO7 hO8 hs7 hk8s hkw hkx hw8
 go_wp2_with fail
 rw [HKW.out.2.2, HKW.out.2.1]
 refine wp_rangeCnt (M := [(7, [97, 98, 99])]) HI.out.1 HI.out.2.2.2.2.1 HI.out.2.1.cnt rfl (fun _ _ => by kernel_rfl) rfl ?hbody ?hdone
 case hbody =>
  intro l k u1 u2 W R hk c0 f0 hR
  obtain rfl : k = 0 := by simp at hk; exact hk
  have HR := Lib.hid hR
  clear hR hk
  gi_wp2
  exact HR.out _
 case hdone =>
  intro W hlt hT hc hK
  rw [HI.out.2.2.2.2.2.2] at hlt hK ⊢
  have hO6 : Old w6 W := below_turn (Old.trans HI.out.2.2.2.2.2.1 HI.out.2.2.2.2.1) hT (by intro u hu; simp at hu; subst hu; rw [← HKW.out.2.1]; exact HI.out.2.2.2.2.2.1.size) (Old.trans HI.out.2.2.2.2.2.1 HI.out.2.2.2.2.1).size
  have HD := Lib.hid (And.intro hlt (And.intro hO6 (And.intro hc hK)))
  obtain ⟨Z16, hz16⟩ : ∃ Z, zs 16 = Z := ⟨_, rfl⟩
  obtain ⟨Z12, hz12⟩ : ∃ Z, zs 12 = Z := ⟨_, rfl⟩
  have hk16 : keyOk Z16 := by rw [← hz16]; exact .inl (zs_len 16)
  have hl12 : Z12.length = 12 := by rw [← hz12]; exact zs_len 12
  obtain ⟨hs1, hs2⟩ := sealF_ok Z16 Z12 [109] hk16 hl12
  have hs3 := sealF_len Z16 Z12 [109]
  obtain ⟨SB, hSB⟩ : ∃ V, sealF Z16 Z12 [109] = V := ⟨_, rfl⟩
  rw [hSB] at hs1 hs2 hs3
  obtain ⟨SB, sb⟩ := SB
  simp only at hs1 hs2 hs3
  subst hs1
  have hs4 : SB.length ≤ 1000 := by simp at hs3; omega
  have HZ := Lib.hid (And.intro hz16 (And.intro hz12 (And.intro hSB (And.intro hs2 hs4))))
  clear hlt hT hc hK hO6 hz16 hz12 hk16 hl12 hSB hs2 hs3 hs4
  go_upto_region 14 with fail
  go_cut [10, 11] from 52 to 60 (fun v10 v11 wx => ∃ (A : Option Addr) (n c : Nat), v10 = .slice A n c ∧ v11 = .bool true ∧ Own wx 0 (.slice A n c) SB ∧ Old W wx)
  case first =>
   refine region_old (by kernel_rfl) (fun wd hHeld hSz => ?_)
   have HSz := Lib.hid hSz
   clear hSz
   have hz : Z3 W wd none none none false := Z3.start hHeld
   (refine wpAnyH_ready (rs := [0, 1, 2]) (by kernel_rfl) (by simp) ?_; refine (consL rfl (fun K hK => ?_) (consL rfl (fun K hK => ?_) (consL rfl (fun K hK => ?_) AllReadyH.nil))))
   all_goals (first
    | refine step_z16 hz rfl rfl (fun v hz => hK.out _ _ hz.old (fun hHeld => ?_))
    | refine step_z12 hz rfl rfl (fun v hz => hK.out _ _ hz.old (fun hHeld => ?_))
    | refine step_zm hz rfl rfl (fun v hz => hK.out _ _ hz.old (fun hHeld => ?_))
    | refine step_zk hz 55 rfl rfl rfl (fun v hz => hK.out _ _ hz.old (fun hHeld => ?_)))
   all_goals (clear hK K; try simp only [Act.put, sA, sB, sC])
   all_goals (first | (have hg : Z3 _ _ (some _) none none false := hz; clear hg; refine wpAnyH_ready (rs := [1, 2]) (by kernel_rfl) (by simp) ?_; refine (consL rfl (fun K hK => ?_) (consL rfl (fun K hK => ?_) AllReadyH.nil))) | (have hg : Z3 _ _ none (some _) none false := hz; clear hg; refine wpAnyH_ready (rs := [0, 2]) (by kernel_rfl) (by simp) ?_; refine (consL rfl (fun K hK => ?_) (consL rfl (fun K hK => ?_) AllReadyH.nil))) | (have hg : Z3 _ _ none none (some _) false := hz; clear hg; refine wpAnyH_ready (rs := [0, 1, 3]) (by kernel_rfl) (by simp) ?_; refine (consL rfl (fun K hK => ?_) (consL rfl (fun K hK => ?_) (consL rfl (fun K hK => ?_) AllReadyH.nil)))))
   all_goals (first
    | refine step_z16 hz rfl rfl (fun v hz => hK.out _ _ hz.old (fun hHeld => ?_))
    | refine step_z12 hz rfl rfl (fun v hz => hK.out _ _ hz.old (fun hHeld => ?_))
    | refine step_zm hz rfl rfl (fun v hz => hK.out _ _ hz.old (fun hHeld => ?_))
    | refine step_zk hz 55 rfl rfl rfl (fun v hz => hK.out _ _ hz.old (fun hHeld => ?_)))
   all_goals (clear hK K; try simp only [Act.put, sA, sB, sC])
   all_goals (first | (have hg : Z3 _ _ (some _) (some _) none false := hz; clear hg; refine wpAnyH_ready (rs := [2]) (by kernel_rfl) (by simp) ?_; refine (consL rfl (fun K hK => ?_) AllReadyH.nil)) | (have hg : Z3 _ _ (some _) none (some _) false := hz; clear hg; refine wpAnyH_ready (rs := [1, 3]) (by kernel_rfl) (by simp) ?_; refine (consL rfl (fun K hK => ?_) (consL rfl (fun K hK => ?_) AllReadyH.nil))) | (have hg : Z3 _ _ none (some _) (some _) false := hz; clear hg; refine wpAnyH_ready (rs := [0, 3]) (by kernel_rfl) (by simp) ?_; refine (consL rfl (fun K hK => ?_) (consL rfl (fun K hK => ?_) AllReadyH.nil))) | (have hg : Z3 _ _ none none (some _) true := hz; clear hg; refine wpAnyH_ready (rs := [0, 1]) (by kernel_rfl) (by simp) ?_; refine (consL rfl (fun K hK => ?_) (consL rfl (fun K hK => ?_) AllReadyH.nil))))
   all_goals (first
    | refine step_z16 hz rfl rfl (fun v hz => hK.out _ _ hz.old (fun hHeld => ?_))
    | refine step_z12 hz rfl rfl (fun v hz => hK.out _ _ hz.old (fun hHeld => ?_))
    | refine step_zm hz rfl rfl (fun v hz => hK.out _ _ hz.old (fun hHeld => ?_))
    | refine step_zk hz 55 rfl rfl rfl (fun v hz => hK.out _ _ hz.old (fun hHeld => ?_)))
   all_goals (clear hK K; try simp only [Act.put, sA, sB, sC])
   all_goals (first | (have hg : Z3 _ _ (some _) (some _) (some _) false := hz; clear hg; refine wpAnyH_ready (rs := [3]) (by kernel_rfl) (by simp) ?_; refine (consL rfl (fun K hK => ?_) AllReadyH.nil)) | (have hg : Z3 _ _ (some _) none (some _) true := hz; clear hg; refine wpAnyH_ready (rs := [1]) (by kernel_rfl) (by simp) ?_; refine (consL rfl (fun K hK => ?_) AllReadyH.nil)) | (have hg : Z3 _ _ none (some _) (some _) true := hz; clear hg; refine wpAnyH_ready (rs := [0]) (by kernel_rfl) (by simp) ?_; refine (consL rfl (fun K hK => ?_) AllReadyH.nil)))
   all_goals (first
    | refine step_z16 hz rfl rfl (fun v hz => hK.out _ _ hz.old (fun hHeld => ?_))
    | refine step_z12 hz rfl rfl (fun v hz => hK.out _ _ hz.old (fun hHeld => ?_))
    | refine step_zm hz rfl rfl (fun v hz => hK.out _ _ hz.old (fun hHeld => ?_))
    | refine step_zk hz 55 rfl rfl rfl (fun v hz => hK.out _ _ hz.old (fun hHeld => ?_)))
   all_goals (clear hK K; try simp only [Act.put, sA, sB, sC])
   all_goals
    have r0 := hz.z0 _ rfl
    have r1 := hz.z1 _ rfl
    have r2 : Rd _ _ 1 1 [109] := (hz.z2 _ rfl).2.2
    rw [HZ.out.1] at r0
    rw [HZ.out.2.1] at r1
    refine rdL 4 (fun K hK => ?_)
    go_simp
    refine (seal_any _ _ _ 16 16 12 12 1 1 Z16 Z12 [109] _ r0 r1 r2 (by omega) (by omega)).mono ?_
    rintro e vS ⟨A9, n9, c9, rfl, hO9, hB9⟩
    rw [HZ.out.2.2.1] at hO9
    simp only [HZ.out.2.2.1]
    refine hK.out _ _ (Old.trans hHeld hB9) (fun hHeld => ?_)
    clear hK K r0 r1 r2
    have HO := Lib.hid hO9
    clear hO9 hz
    try simp only [Act.put, sA, sB, sC]
    refine tkS 5 hHeld ?_
    refine tkS 6 hHeld ?_
    refine tkS 7 hHeld ?_
    refine tkS 8 hHeld ?_
    refine tkS 9 hHeld ?_
    refine wpAnyH_done (by kernel_rfl) ?_ _
    refine NoPanic.normal ?_
    try simp only [Exit.then]
    try go_at_K
    go_wp2_with fail
    go_meet
    case rel => exact ⟨A9, n9, c9, rfl, rfl, HO.out.mono (Nat.zero_le _), hHeld⟩
  case rest =>
   obtain ⟨A9, n9, c9, rfl, rfl, hO9, hB9⟩ := hcut
   have hn9 : n9 ≤ 1000 := by have h1 := hO9.len; have h2 := HZ.out.2.2.2.2; omega
   have hmk := Tryz.prog_make 16 (by omega) wc
   obtain ⟨w10, hw10⟩ : ∃ x, wc.alloc (.cells (madeCells #[.int .u8 0] 16) 5) = x := ⟨_, rfl⟩
   have r0 : Rd w10 (some ⟨wc.heap.size, 0, none⟩) 16 16 Z16 := by rw [← hw10, ← HZ.out.1]; exact (Own.made wc 16 (by unfold maxLen; omega)).rd
   have hO10 : Old wc w10 := by rw [← hw10]; exact (Old.refl _).alloc _
   rw [hw10, show ((16 : Nat) : Int) = 16 from rfl] at hmk
   have hW10 : Old W w10 := Old.trans hB9 hO10
   have hun := unseal_any (some ⟨wc.heap.size, 0, none⟩) A9 16 16 n9 c9 Z16 SB w10 r0 (hO9.rd.below hO10) (by omega)
   rw [HZ.out.2.2.2.1] at hun
   have HT := Lib.hid hW10
   clear r0 hO10 hW10 hO9 hB9 hw10
   go_upto_region 16 with (go_at_call 19; refine hun.mono ?_; rintro e w11 ⟨A11, n11, c11, rfl, hO11, hB11⟩; have H11 := Lib.hid (And.intro hO11 (Old.trans HT.out hB11)); clear hO11 hB11)
   clear hmk hun
   have hW11 : Old w6 w11 := Old.trans HD.out.2.1 H11.out.2
   have s1 := (H6.out.1.rd.below hW11).str
   have c0 := (HD.out.2.2.1.below H11.out.2).cell 0
   simp only [List.getElem?_toArray, List.getElem?_cons_zero] at c0
   have hS11 := H6.out.2.1.below hW11
   have hld := Load_any x b5 _ _ _ _ w11 hS11.blk hS11.map (by show 3 + 8 + 0 ≤ _; omega)
   rw [show sload [(7, [97, 98, 99])] = 11 from rfl] at hld
   have hrm : ∀ w12, Old w11 w12 → Calls Tryz.prog 23 #[.pointer (some ⟨x, 0, none⟩)] w12 (fun e w' => e = .returned (.int .i64 ((64 * 80 : Nat) : Int)) ∧ w12 = w') := fun w12 ho => room_any x v d L b5 _ 80 _ _ _ w12 (hS11.below ho)
   have HF := Lib.hid (And.intro hW11 (Old.trans H6.out.2.2 hW11))
   clear hW11 hS11
   go_wp2_with (first
    | (go_at_call 16; refine hld.mono ?_; rintro e w12 ⟨rfl, hO12⟩; have s2 := (H11.out.1.rd.below hO12).str; have H12 := Lib.hid hO12; clear hO12)
    | (go_at_call 23; refine (hrm _ H12.out).mono ?_; rintro e w13 ⟨rfl, rfl⟩))
   have hO12 : Old W w12 := Old.trans H11.out.2 H12.out
   refine ret_mark rfl (D := kx + 1) ((hO12.block _ (by have := HD.out.1; omega)).trans HD.out.2.2.2) (fun W' => results_tmp rfl _ _ _) ⟨rfl, ?_⟩
   refine below_turn (Old.trans HF.out.2 H12.out) ((Turn.refl [kx + 1] _).putObj (.inl (by simp)) _) (by intro t h; simp at h; have := HKW.out.1; omega) (Old.trans HF.out.2 H12.out).size
end Go.Proofs.YtgjnmpjimhbfgaaGreatDoor
namespace Go.Proofs.YtgjnmpjimhbfgaaGreatDoor
set_option maxRecDepth 100000
open Go.RowKit
attribute [local go_sem] Oper.semAt_some
theorem old_set' {w W : World} {R : Nat} {v : Value} (h : Old w W) (hR : w.heap.size ≤ R) : Old w (W.setCell ⟨R, 0, none⟩ v) := below_turn h ((Turn.refl [R] W).setCell (.inl (by simp)) _) (by intro t ht; simp at ht; omega) h.size
structure IsB (w W : World) (x : Nat) (A : Option Addr) (m c : Nat) : Prop where
 s : Blk W w.heap.size 28 #[.pointer (some ⟨x, 0, none⟩)]
 m : Blk W (w.heap.size + 1) 50 #[.slice A m c]
 r : Blk W (w.heap.size + 2) 4 #[.bool false]
 old : Old w W
theorem IsB.below {w W W' : World} {x m c : Nat} {A : Option Addr} (h : IsB w W x A m c) (hb : Old W W') : IsB w W' x A m c := ⟨h.s.below hb, h.m.below hb, h.r.below hb, Old.trans h.old hb⟩
theorem IsB.turn {w W W' : World} {x m c : Nat} {A : Option Addr} {T : List Nat} (h : IsB w W x A m c) (ht : Turn T W W') (hT : ∀ u ∈ T, w.heap.size + 3 ≤ u) : IsB w W' x A m c :=
 ⟨h.s.turn ht (fun hm => by have := hT _ hm; omega), h.m.turn ht (fun hm => by have := hT _ hm; omega), h.r.turn ht (fun hm => by have := hT _ hm; omega), below_turn h.old ht (fun u hu => by have := hT u hu; omega) h.old.size⟩
structure IsI (w w8 : World) (kx x : Nat) (A : Option Addr) (m c : Nat) (rs : List RcV) (M : List SRec) (k : Nat) (G : List Nat) (W : World) : Prop where
 cnt : Blk W kx 3 #[.int .i64 (k : Int)]
 b : IsB w W x A m c
 new : ∀ y ∈ G, w8.heap.size ≤ y
 size : w8.heap.size ≤ W.heap.size
 kr : k ≤ rs.length
 pre : (recs rs).take k = M.take k
def IsX (w : World) (rs : List RcV) (M : List SRec) (cd : Code) (W : World) : Prop := cd = .ret ∧ Blk W (w.heap.size + 2) 4 #[.bool false] ∧ Old w W ∧ M ≠ recs rs
theorem IsI.hI {w w8 W1 W2 : World} {kx x m c k : Nat} {A : Option Addr} {rs : List RcV} {M : List SRec} {G1 G2 : List Nat} (hs : w8.heap.size = kx + 1) (hk : w.heap.size + 3 ≤ kx) (h : IsI w w8 kx x A m c rs M k G1 W1) (ht : Turn G1 W1 W2) (hG : ∀ y ∈ G2, y ∈ G1 ∨ W1.heap.size ≤ y) : IsI w w8 kx x A m c rs M k G2 W2 :=
 ⟨h.cnt.turn ht (fun hm => by have := h.new _ hm; omega), h.b.turn ht (fun u hu => by have := h.new u hu; omega), fun y hy => (hG y hy).elim (h.new y) (fun hy => Nat.le_trans h.size hy), Nat.le_trans h.size ht.size, h.kr, h.pre⟩
theorem IsI.hIl {w w8 W1 W2 : World} {kx x m c k : Nat} {A : Option Addr} {rs : List RcV} {M : List SRec} {G1 : List Nat} (hs : w8.heap.size = kx + 1) (hk : w.heap.size + 3 ≤ kx) (h : IsI w w8 kx x A m c rs M k G1 W1) (ht : Turn [w8.heap.size + 1] W1 W2) : IsI w w8 kx x A m c rs M k G1 W2 :=
 ⟨h.cnt.turn ht (fun hm => by simp at hm; omega), h.b.turn ht (fun u hu => by simp at hu; omega), h.new, Nat.le_trans h.size ht.size, h.kr, h.pre⟩
theorem IsX.keep {w W1 W2 : World} {rs : List RcV} {M : List SRec} {cd : Code} {S : List Nat} (h : IsX w rs M cd W1) (ht : Turn S W1 W2) (hS : ∀ t ∈ S, w.heap.size + 3 ≤ t) : IsX w rs M cd W2 :=
 ⟨h.1, h.2.1.turn ht (fun hm => by have := hS _ hm; omega), below_turn h.2.2.1 ht (fun u hu => by have := hS u hu; omega) h.2.2.1.size, h.2.2.2⟩
theorem sget_none {M : List SRec} {i : Int} (h : ∀ p ∈ M, p.1 ≠ i) : sget M i = none := by
 induction M with
 | nil => rfl
 | cons p M ih => rw [sget_cons, if_neg (h p (by simp))]; exact ih (fun q hq => h q (by simp [hq]))
theorem recs_ne {rs : List RcV} {M : List SRec} {k : Nat} {q : RcV} {p : SRec} (hq : rs[k]? = some q) (hp : M[k]? = some p) (h : (q.id, q.l) ≠ p) : M ≠ recs rs := fun e => by
 have := recs_get hq
 rw [← e, hp] at this
 injection this with this
 exact h this.symm
set_option maxHeartbeats 16000000 in
theorem lis_any {w : World} {x b : Nat} {pv pr br : Value} {M : List SRec} (hx : Blk w x 83 #[pv, pr, .map (some b), br]) (hM : RMap w b M) (hF : Fine M) (A : Option Addr) (m c : Nat) (rs : List RcV) (hR : RcAt w 0 (.slice A m c) rs) (hl : sload (recs rs) ≤ 1000000) (hNM : M.length ≤ 90000) :
  Calls Tryz.prog 25 #[.pointer (some ⟨x, 0, none⟩), .slice A m c] w fun e w' => e = .returned (.bool (decide (M = recs rs))) ∧ Old w w' := by
 have hml := hR.1.len
 have hmn : 8 * m ≤ 1000000 := by have := num_load (recs rs); rw [recs_len, ← hml] at this; omega
 obtain ⟨l1, hl1⟩ : ∃ l, sload M = l := ⟨_, rfl⟩
 obtain ⟨l2, hl2⟩ : ∃ l, sload (recs rs) = l := ⟨_, rfl⟩
 obtain ⟨w1, hw1⟩ : ∃ w1, ((w.alloc (.cells #[.pointer (some ⟨x, 0, none⟩)] 28)).alloc (.cells #[.slice A m c] 50)).alloc (.cells #[.bool false] 4) = w1 := ⟨_, rfl⟩
 have hO1 : Old w w1 := by rw [← hw1]; exact (((Old.refl _).alloc _).alloc _).alloc _
 have hs1 : w1.heap.size = w.heap.size + 3 := by rw [← hw1]; simp
 have hB : IsB w w1 x A m c := by
  refine ⟨?_, ?_, ?_, hO1⟩
  ·rw [← hw1]; exact (Blk.new w _ _).below (((Old.refl _).alloc _).alloc _)
  ·rw [← hw1]
   have := (Blk.new (w.alloc (.cells #[.pointer (some ⟨x, 0, none⟩)] 28)) 50 #[.slice A m c]).below ((Old.refl _).alloc (.cells #[.bool false] 4))
   simpa using this
  ·rw [← hw1]
   have := Blk.new ((w.alloc (.cells #[.pointer (some ⟨x, 0, none⟩)] 28)).alloc (.cells #[.slice A m c] 50)) 4 #[.bool false]
   simpa using this
 have hLd : ∀ W, Old w1 W → Calls Tryz.prog 16 #[.pointer (some ⟨x, 0, none⟩)] W fun e w' => e = .returned (.int .i64 (l1 : Int)) ∧ Old W w' := fun W ho => by
  have := Load_any x b pv pr br M W (hx.below (Old.trans hO1 ho)) (hM.below (Old.trans hO1 ho)) (by have := hF.load; omega)
  rwa [hl1] at this
 have hLm : ∀ W, Old w1 W → Calls Tryz.prog 24 #[.slice A m c] W fun e w' => e = .returned (.int .i64 (l2 : Int)) ∧ Old W w' := fun W ho => by
  have := lload_any A m c 0 rs W (hR.below (Old.trans hO1 ho)) (by omega)
  rwa [hl2] at this
 have hne := neStore
 have HB := Lib.hid hB
 have HH := Lib.hid (And.intro hx (And.intro hM (And.intro hF (And.intro hR (And.intro hml (And.intro hl1 (And.intro hl2 (And.intro hs1 (And.intro hmn hNM)))))))))
 clear hx hM hF hR hml hl1 hl2 hB hO1 hs1 hmn hNM hl
 refine calls_of_marks Tryz.func25 rfl ?_
 simp only [Tryz.ntmps25, List.size_toArray, List.length_cons, List.length_nil, Nat.reduceAdd, Nat.reduceSub, Array.replicate_succ, Array.replicate_zero, List.push_toArray, List.append_toArray, List.nil_append, List.cons_append]
 go_upto_region 1 with fail
 clear hw1
 go_cut [21] from 13 to 22 (fun v wx => v = .bool ((l1 : Int) != (l2 : Int)) ∧ Old w1 wx)
 case first =>
  refine region_old (by kernel_rfl) (fun wd hHeld hSz => ?_)
  have HSz := Lib.hid hSz
  clear hSz
  refine tkS 0 hHeld ?_ (hy := by intro wq hSw; have cq := (HB.out.below hSw).s.cell 0; simp only [List.getElem?_toArray, List.getElem?_cons_zero] at cq; clear hSw; go_simp; try with_reducible rfl)
  refine tkS 1 hHeld ?_
  refine tkS 2 hHeld ?_
  refine tkS 3 hHeld ?_ (hy := by intro wq hSw; have cq := (HB.out.below hSw).s.cell 0; simp only [List.getElem?_toArray, List.getElem?_cons_zero] at cq; clear hSw; go_simp; try with_reducible rfl)
  refine tkS 5 hHeld ?_ (hy := by intro wq hSw; have cq := (HB.out.below hSw).m.cell 0; simp only [List.getElem?_toArray, List.getElem?_cons_zero] at cq; clear hSw; go_simp; try with_reducible rfl)
  refine rdL 4 (fun K hK => ?_)
  go_simp
  refine (hLd _ hHeld).mono ?_
  rintro e w2 ⟨rfl, hO2⟩
  have H2 := Lib.hid (Old.trans hHeld hO2)
  clear hO2
  refine hK.out _ _ H2.out (fun hHeld => ?_)
  clear hK K
  try simp only [Act.put, sA, sB, sC]
  refine rdL 6 (fun K hK => ?_)
  go_simp
  refine (hLm _ hHeld).mono ?_
  rintro e w3 ⟨rfl, hO3⟩
  have H3 := Lib.hid (Old.trans hHeld hO3)
  clear hO3
  refine hK.out _ _ H3.out (fun hHeld => ?_)
  clear hK K
  try simp only [Act.put, sA, sB, sC]
  refine tkS 7 hHeld ?_
  refine tkS 8 hHeld ?_
  refine wpAnyH_done (by kernel_rfl) ?_ _
  refine NoPanic.normal ?_
  try simp only [Exit.then]
  try go_at_K
  try go_wp2_with fail
  go_meet
  case rel => exact ⟨by first | rfl | simp, H3.out⟩
 case rest =>
  obtain ⟨rfl, hOc⟩ := hcut
  try go_at_K
  have HC := Lib.hid (HB.out.below hOc)
  have HC2 := Lib.hid hOc.size
  clear hOc hLd hLm
  by_cases hll : l1 = l2
  case neg =>
   have q1 : ((l1 : Int) != (l2 : Int)) = true := by simp; omega
   have hdec : decide (M = recs rs) = false := decide_eq_false (fun e => hll (by rw [← HH.out.2.2.2.2.2.1, ← HH.out.2.2.2.2.2.2.1, e]))
   have c0 := HC.out.r.cell 0
   have f0 := HC.out.r.frozen 0
   simp only [List.getElem?_toArray, List.getElem?_cons_zero] at c0
   have HD := Lib.hid hdec
   clear hdec hll
   go_wp2_with fail
   rw [HD.out]
   exact ret_bare rfl (res_cell rfl rfl (HC.out.r.set_ 0 (.bool false))) ⟨rfl, old_set' HC.out.old (by omega)⟩
  case pos =>
   subst hll
   have q1 : ((l1 : Int) != (l1 : Int)) = false := by simp
   have hif := iterFN
   have c0 := HC.out.s.cell 0
   simp only [List.getElem?_toArray, List.getElem?_cons_zero] at c0
   go_wp2_with fail
   refine (stall_any (some ⟨x, 0, none⟩) wc).mono ?_
   rintro e w4 ⟨rfl, hw4⟩
   have hO4 : Old wc w4 := by rw [hw4]; exact (Old.refl _).alloc _
   have hbx4 : w4.cell? ⟨wc.heap.size, 0, none⟩ = some (.pointer (some ⟨x, 0, none⟩)) := by rw [hw4]; exact (Blk.new wc 28 #[.pointer (some ⟨x, 0, none⟩)]).cell 0
   have hs4 : w4.heap.size = wc.heap.size + 1 := by rw [hw4]; simp
   obtain ⟨kx, hkx⟩ : ∃ kx, w4.heap.size = kx := ⟨_, rfl⟩
   obtain ⟨w8, hw8⟩ : ∃ w8, w4.alloc (.cells #[.int .i64 0] 3) = w8 := ⟨_, rfl⟩
   have hk8 : Blk w8 kx 3 #[.int .i64 0] := by rw [← hw8, ← hkx]; exact Blk.new _ _ _
   have hO8 : Old w4 w8 := by rw [← hw8]; exact (Old.refl _).alloc _
   have hOw4 : Old w w4 := Old.trans HC.out.old hO4
   have hit := all_iter w4 wc.heap.size x b pv pr br M hbx4 (by omega) (HH.out.1.below hOw4) (HH.out.2.1.below hOw4) (by have := HH.out.2.2.2.2.2.2.2.2.2; omega) (fun q hq => by have := HH.out.2.2.1.len q hq; omega)
   rw [hkx] at hit
   have hk8s : w8.heap.size = kx + 1 := by rw [← hw8, ← hkx]; simp
   have hsc := HC.out.old.size
   have hkw : w.heap.size + 3 ≤ kx := by
    have h1 := HH.out.2.2.2.2.2.2.2.1
    have h2 := HC2.out
    omega
   have HI := Lib.hid (And.intro hit (And.intro hk8 (And.intro hO8 (And.intro (HC.out.below (Old.trans hO4 hO8)) (And.intro hk8s (And.intro hkw (And.intro hkx hw8)))))))
   clear hw4 hbx4 hk8 hit hO4 hO8 hk8s hkw hkx hw8 hs4 hOw4 hsc c0
   go_wp2_with fail
   rw [HI.out.2.2.2.2.2.2.2, HI.out.2.2.2.2.2.2.1]
   refine wp_rangeH2 7 8 (gf := 53) (lb := #[.pointer (some ⟨wc.heap.size, 0, none⟩)]) (G := []) rfl (fun _ _ => by kernel_rfl) HI.out.1 (by have := HI.out.2.2.2.2.1; omega) (fun k args W h => h.size) (by simp)
    (fun k G W => IsI w w8 kx x A m c rs M k G W) (fun cd k W => IsX w rs M cd W) (fun cd k W1 W2 S h ht hS => h.keep ht (fun t h => by have h1 := (hS t h).1; have h2 := HI.out.2.2.2.2.1; have h3 := HI.out.2.2.2.2.2.1; omega))
    (fun k G1 G2 W1 W2 h ht hG => h.hI HI.out.2.2.2.2.1 HI.out.2.2.2.2.2.1 ht hG) (fun k G1 W1 W2 h hl ht => h.hIl HI.out.2.2.2.2.1 HI.out.2.2.2.2.2.1 ht) (fun k args W1 W2 h hl ht => h.loop hl ht)
    ⟨HI.out.2.1, HI.out.2.2.2.1, by simp, Nat.le_refl _, Nat.zero_le _, rfl⟩ (fun W ht => Old.trans HI.out.2.2.1 ht.below)
    ?hassign ?hbody ?hdone ?hstop
   case hassign =>
    rintro l' k0 args W K ⟨p, Ap, cp, hp, rfl, hr⟩ hK
    simp at hK
    gi_wp2
    exact hK
   case hbody =>
    rintro l' k args G1 W hkN hlt hI ⟨p, Ap, cp, hp, rfl, hr⟩ hd1 hd2 hgs
    have hs8 := HI.out.2.2.2.2.1
    rw [hs8] at hlt hd1 hd2 ⊢
    have hkw := HI.out.2.2.2.2.2.1
    obtain ⟨pi, pb⟩ := p
    simp only at hr ⊢
    obtain ⟨pl, hpl⟩ : ∃ pl, pb.length = pl := ⟨_, rfl⟩
    rw [hpl] at hr ⊢
    simp only [List.zip_toArray, List.zip_cons_cons, List.zip_nil_right, List.size_toArray, List.length_cons, List.length_nil, Nat.zero_add, Nat.reduceAdd, List.foldl_toArray', List.foldl_cons, List.setIfInBounds_toArray, List.set_cons_succ, List.set_cons_zero, List.foldl_nil, Array.getD_eq_getD_getElem?, Nat.zero_lt_succ, getElem?_pos, List.getElem_toArray, List.getElem_cons_zero, Option.getD_some, Nat.lt_add_one, List.getElem_cons_succ]
    have HK := Lib.hid (And.intro hI (And.intro hp (And.intro hr (And.intro hpl (And.intro hd1 (And.intro hlt (And.intro hgs (And.intro hkN hs8))))))))
    have hfin : ∀ Wd, Old W Wd → M ≠ recs rs → (KeepsTwo (kx + 1) W (Wd.setCell ⟨w.heap.size + 1 + 1, 0, none⟩ (.bool false)) ∧ IsX w rs M .ret (Wd.setCell ⟨w.heap.size + 1 + 1, 0, none⟩ (.bool false))) := fun Wd ho hne => by
     have hB := hI.b.below ho
     refine ⟨⟨[w.heap.size + 1 + 1], (Turn.of_below _ ho).setCell (.inl (by simp)) _, by simp; omega, by simp; omega⟩, rfl, ?_, old_set' hB.old (by omega), hne⟩
     have := hB.r.set_ 0 (.bool false)
     simpa using this
    have HFN := Lib.hid hfin
    have hmr := HH.out.2.2.2.2.1
    clear hI hp hr hpl hd1 hd2 hlt hgs hkN hs8 hfin
    by_cases hkm : k < m
    case neg =>
     have hne : M ≠ recs rs := fun e => by
      have h1 := HK.out.2.2.2.2.2.2.2.1
      rw [e, recs_len, ← hmr] at h1
      exact hkm h1
     have q2 : (m : Int) ≤ (k : Int) := by omega
     have q3 : m ≤ k := by omega
     have q4 : decide (m ≤ k) = true := decide_eq_true q3
     have q5 : decide ((k : Int) ≥ (m : Int)) = true := decide_eq_true (by omega)
     have HN := Lib.hid hne
     clear hne hkm hmr
     gi_wp2
     refine region_roundOld (by kernel_rfl) (by rintro ⟨a, w, h⟩; exact h) (by kernel_rfl) (fun wd hHeld hSz => ?_)
     have HSz := Lib.hid hSz
     clear hSz
     refine tkS 0 hHeld ?_ (hy := by intro wq hSw; have cq := (HK.out.1.cnt.below hSw).cell 0; simp only [List.getElem?_toArray, List.getElem?_cons_zero] at cq; clear hSw; go_simp; try with_reducible rfl)
     refine tkS 1 hHeld ?_ (hy := by intro wq hSw; have cq := (HK.out.1.b.below hSw).m.cell 0; simp only [List.getElem?_toArray, List.getElem?_cons_zero] at cq; clear hSw; go_simp; try with_reducible rfl)
     refine tkS 2 hHeld ?_
     refine tkS 3 hHeld ?_
     refine tkS 4 hHeld ?_
     refine takeL (i := 5) (v := undef) rfl (by kernel_rfl) (by kernel_rfl) (by kernel_rfl) (fun _ _ _ h => h) (Or.inr ⟨by rfl, rfl⟩) hHeld ?_
     try simp only [Act.put, sA, sB, sC]
     refine takeL (i := 6) (v := undef) rfl (by kernel_rfl) (by kernel_rfl) (by kernel_rfl) (fun _ _ _ h => h) (Or.inr ⟨by rfl, rfl⟩) hHeld ?_
     try simp only [Act.put, sA, sB, sC]
     refine takeL (i := 7) (v := undef) rfl (by kernel_rfl) (by kernel_rfl) (by kernel_rfl) (fun _ _ _ h => h) (Or.inr ⟨by rfl, rfl⟩) hHeld ?_
     try simp only [Act.put, sA, sB, sC]
     refine takeL (i := 8) (v := undef) rfl (by kernel_rfl) (by kernel_rfl) (by kernel_rfl) (fun _ _ _ h => h) (Or.inr ⟨by rfl, rfl⟩) hHeld ?_
     try simp only [Act.put, sA, sB, sC]
     refine takeL (i := 9) (v := undef) rfl (by kernel_rfl) (by kernel_rfl) (by kernel_rfl) (fun _ _ _ h => h) (Or.inr ⟨by rfl, rfl⟩) hHeld ?_
     try simp only [Act.put, sA, sB, sC]
     refine takeL (i := 10) (v := undef) rfl (by kernel_rfl) (by kernel_rfl) (by kernel_rfl) (fun _ _ _ h => h) (Or.inr ⟨by rfl, rfl⟩) hHeld ?_
     try simp only [Act.put, sA, sB, sC]
     refine takeL (i := 11) (v := undef) rfl (by kernel_rfl) (by kernel_rfl) (by kernel_rfl) (fun _ _ _ h => h) (Or.inr ⟨by rfl, rfl⟩) hHeld ?_
     try simp only [Act.put, sA, sB, sC]
     refine tkS 12 hHeld ?_
     refine tkS 13 hHeld ?_
     refine takeL (i := 14) (v := undef) rfl (by kernel_rfl) (by kernel_rfl) (by kernel_rfl) (fun _ _ _ h => h) (Or.inr ⟨by rfl, rfl⟩) hHeld ?_
     try simp only [Act.put, sA, sB, sC]
     refine takeL (i := 15) (v := undef) rfl (by kernel_rfl) (by kernel_rfl) (by kernel_rfl) (fun _ _ _ h => h) (Or.inr ⟨by rfl, rfl⟩) hHeld ?_
     try simp only [Act.put, sA, sB, sC]
     refine takeL (i := 16) (v := undef) rfl (by kernel_rfl) (by kernel_rfl) (by kernel_rfl) (fun _ _ _ h => h) (Or.inr ⟨by rfl, rfl⟩) hHeld ?_
     try simp only [Act.put, sA, sB, sC]
     refine takeL (i := 17) (v := undef) rfl (by kernel_rfl) (by kernel_rfl) (by kernel_rfl) (fun _ _ _ h => h) (Or.inr ⟨by rfl, rfl⟩) hHeld ?_
     try simp only [Act.put, sA, sB, sC]
     refine takeL (i := 18) (v := undef) rfl (by kernel_rfl) (by kernel_rfl) (by kernel_rfl) (fun _ _ _ h => h) (Or.inr ⟨by rfl, rfl⟩) hHeld ?_
     try simp only [Act.put, sA, sB, sC]
     refine takeL (i := 19) (v := undef) rfl (by kernel_rfl) (by kernel_rfl) (by kernel_rfl) (fun _ _ _ h => h) (Or.inr ⟨by rfl, rfl⟩) hHeld ?_
     try simp only [Act.put, sA, sB, sC]
     refine takeL (i := 20) (v := undef) rfl (by kernel_rfl) (by kernel_rfl) (by kernel_rfl) (fun _ _ _ h => h) (Or.inr ⟨by rfl, rfl⟩) hHeld ?_
     try simp only [Act.put, sA, sB, sC]
     refine takeL (i := 21) (v := undef) rfl (by kernel_rfl) (by kernel_rfl) (by kernel_rfl) (fun _ _ _ h => h) (Or.inr ⟨by rfl, rfl⟩) hHeld ?_
     try simp only [Act.put, sA, sB, sC]
     refine takeL (i := 22) (v := undef) rfl (by kernel_rfl) (by kernel_rfl) (by kernel_rfl) (fun _ _ _ h => h) (Or.inr ⟨by rfl, rfl⟩) hHeld ?_
     try simp only [Act.put, sA, sB, sC]
     refine tkS 23 hHeld ?_
     refine wpAnyH_done (by kernel_rfl) ?_ _
     simp only [Exit.then]
     have HD := Lib.hid hHeld
     have r0 := (HK.out.1.b.below hHeld).r.cell 0
     have f0 := (HK.out.1.b.below hHeld).r.frozen 0
     simp only [List.getElem?_toArray, List.getElem?_cons_zero] at r0
     clear hHeld
     gi_wp2
     exact HFN.out wd HD.out HN.out
    case pos =>
     have q2 : ¬ (m : Int) ≤ (k : Int) := by omega
     have q3 : ¬ m ≤ k := by omega
     have q4 : decide (m ≤ k) = false := decide_eq_false q3
     have q5 : decide ((k : Int) ≥ (m : Int)) = false := decide_eq_false (by omega)
     clear hmr
     have HKM := Lib.hid hkm
     clear hkm
     have hOwW := HK.out.1.b.old
     obtain ⟨⟨qi, qA, qn, qc, ql⟩, hq⟩ : ∃ q, rs[k]? = some q := ⟨_, List.getElem?_eq_getElem (by rw [← HH.out.2.2.2.2.1]; exact HKM.out)⟩
     obtain ⟨gA, oA, hAe, _, _, _⟩ := (HH.out.2.2.2.1.below hOwW).cells hq
     subst hAe
     have hcz : ∀ W', Old W W' → W'.cell? ⟨gA, oA + k * 2, none⟩ = some (.int .i64 qi) ∧ W'.cell? ⟨gA, oA + k * 2 + 1, none⟩ = some (.slice qA qn qc) := fun W' h => by
      obtain ⟨g, off, e, _, z0, z1⟩ := ((HH.out.2.2.2.1.below hOwW).below h).cells hq
      injection e with e
      injection e with e1 e2
      subst e1 e2
      exact ⟨z0, z1⟩
     have hqr : ∀ W', Old W W' → Rd W' qA qn qc ql := fun W' h => ((HH.out.2.2.2.1.2 _ (List.mem_of_getElem? hq)).below (Old.trans hOwW h)).rd
     have hqn : M ≠ recs rs ∨ (qi = pi ∧ ql = pb) := by
      by_cases e : ((qi, ql) : SRec) = (pi, pb)
      ·injection e with e1 e2; exact Or.inr ⟨e1, e2⟩
      ·exact Or.inl (recs_ne hq HK.out.2.1 e)
     have hne1 : qi ≠ pi → M ≠ recs rs := fun h => hqn.elim id (fun e => absurd e.1 h)
     have hne2 : ql ≠ pb → M ≠ recs rs := fun h => hqn.elim id (fun e => absurd e.2 h)
     have HQ := Lib.hid (And.intro hcz (And.intro hqr hq))
     clear hcz hqr hqn hOwW hq
     by_cases hid1 : qi = pi
     case neg =>
      have HN := Lib.hid (hne1 hid1)
      have q6 : (qi != pi) = true := by simpa using hid1
      have q7 : decide (qi = pi) = false := decide_eq_false hid1
      clear hne1 hne2
      gi_wp2
      refine region_roundOld (by kernel_rfl) (by rintro ⟨a, w, h⟩; exact h) (by kernel_rfl) (fun wd hHeld hSz => ?_)
      have HSz := Lib.hid hSz
      clear hSz
      refine tkS 0 hHeld ?_ (hy := by intro wq hSw; have cq := (HK.out.1.cnt.below hSw).cell 0; simp only [List.getElem?_toArray, List.getElem?_cons_zero] at cq; clear hSw; go_simp; try with_reducible rfl)
      refine tkS 1 hHeld ?_ (hy := by intro wq hSw; have cq := (HK.out.1.b.below hSw).m.cell 0; simp only [List.getElem?_toArray, List.getElem?_cons_zero] at cq; clear hSw; go_simp; try with_reducible rfl)
      refine tkS 2 hHeld ?_
      refine tkS 3 hHeld ?_
      refine tkS 4 hHeld ?_
      refine tkS 5 hHeld ?_ (hy := by intro wq hSw; have cq := (HK.out.1.b.below hSw).m.cell 0; simp only [List.getElem?_toArray, List.getElem?_cons_zero] at cq; clear hSw; go_simp; try with_reducible rfl)
      refine tkS 6 hHeld ?_ (hy := by intro wq hSw; have cq := (HK.out.1.cnt.below hSw).cell 0; simp only [List.getElem?_toArray, List.getElem?_cons_zero] at cq; clear hSw; go_simp; try with_reducible rfl)
      refine tkS 7 hHeld ?_
      refine tkS 8 hHeld ?_
      refine tkS 9 hHeld ?_ (hy := by intro wq hSw; have cq := (HQ.out.1 wq hSw).1; clear hSw; go_simp; try with_reducible rfl)
      refine tkS 10 hHeld ?_
      refine tkS 11 hHeld ?_
      refine tkS 12 hHeld ?_
      refine tkS 13 hHeld ?_
      refine takeL (i := 14) (v := undef) rfl (by kernel_rfl) (by kernel_rfl) (by kernel_rfl) (fun _ _ _ h => h) (Or.inr ⟨by rfl, rfl⟩) hHeld ?_
      try simp only [Act.put, sA, sB, sC]
      refine takeL (i := 15) (v := undef) rfl (by kernel_rfl) (by kernel_rfl) (by kernel_rfl) (fun _ _ _ h => h) (Or.inr ⟨by rfl, rfl⟩) hHeld ?_
      try simp only [Act.put, sA, sB, sC]
      refine takeL (i := 16) (v := undef) rfl (by kernel_rfl) (by kernel_rfl) (by kernel_rfl) (fun _ _ _ h => h) (Or.inr ⟨by rfl, rfl⟩) hHeld ?_
      try simp only [Act.put, sA, sB, sC]
      refine takeL (i := 17) (v := undef) rfl (by kernel_rfl) (by kernel_rfl) (by kernel_rfl) (fun _ _ _ h => h) (Or.inr ⟨by rfl, rfl⟩) hHeld ?_
      try simp only [Act.put, sA, sB, sC]
      refine takeL (i := 18) (v := undef) rfl (by kernel_rfl) (by kernel_rfl) (by kernel_rfl) (fun _ _ _ h => h) (Or.inr ⟨by rfl, rfl⟩) hHeld ?_
      try simp only [Act.put, sA, sB, sC]
      refine takeL (i := 19) (v := undef) rfl (by kernel_rfl) (by kernel_rfl) (by kernel_rfl) (fun _ _ _ h => h) (Or.inr ⟨by rfl, rfl⟩) hHeld ?_
      try simp only [Act.put, sA, sB, sC]
      refine takeL (i := 20) (v := undef) rfl (by kernel_rfl) (by kernel_rfl) (by kernel_rfl) (fun _ _ _ h => h) (Or.inr ⟨by rfl, rfl⟩) hHeld ?_
      try simp only [Act.put, sA, sB, sC]
      refine takeL (i := 21) (v := undef) rfl (by kernel_rfl) (by kernel_rfl) (by kernel_rfl) (fun _ _ _ h => h) (Or.inr ⟨by rfl, rfl⟩) hHeld ?_
      try simp only [Act.put, sA, sB, sC]
      refine takeL (i := 22) (v := undef) rfl (by kernel_rfl) (by kernel_rfl) (by kernel_rfl) (fun _ _ _ h => h) (Or.inr ⟨by rfl, rfl⟩) hHeld ?_
      try simp only [Act.put, sA, sB, sC]
      refine tkS 23 hHeld ?_
      refine wpAnyH_done (by kernel_rfl) ?_ _
      simp only [Exit.then]
      have HD := Lib.hid hHeld
      have r0 := (HK.out.1.b.below hHeld).r.cell 0
      have f0 := (HK.out.1.b.below hHeld).r.frozen 0
      simp only [List.getElem?_toArray, List.getElem?_cons_zero] at r0
      clear hHeld
      gi_wp2
      exact HFN.out wd HD.out HN.out
     case pos =>
      subst hid1
      have q6 : (qi != qi) = false := by simp
      by_cases hql : ql = pb
      case neg =>
       have HN := Lib.hid (hne2 hql)
       have q8 : (ql == pb) = false := by simpa using hql
       clear hne1 hne2
       gi_wp2
       refine region_roundOld (by kernel_rfl) (by rintro ⟨a, w, h⟩; exact h) (by kernel_rfl) (fun wd hHeld hSz => ?_)
       have HSz := Lib.hid hSz
       clear hSz
       refine tkS 0 hHeld ?_ (hy := by intro wq hSw; have cq := (HK.out.1.cnt.below hSw).cell 0; simp only [List.getElem?_toArray, List.getElem?_cons_zero] at cq; clear hSw; go_simp; try with_reducible rfl)
       refine tkS 1 hHeld ?_ (hy := by intro wq hSw; have cq := (HK.out.1.b.below hSw).m.cell 0; simp only [List.getElem?_toArray, List.getElem?_cons_zero] at cq; clear hSw; go_simp; try with_reducible rfl)
       refine tkS 2 hHeld ?_
       refine tkS 3 hHeld ?_
       refine tkS 4 hHeld ?_
       refine tkS 5 hHeld ?_ (hy := by intro wq hSw; have cq := (HK.out.1.b.below hSw).m.cell 0; simp only [List.getElem?_toArray, List.getElem?_cons_zero] at cq; clear hSw; go_simp; try with_reducible rfl)
       refine tkS 6 hHeld ?_ (hy := by intro wq hSw; have cq := (HK.out.1.cnt.below hSw).cell 0; simp only [List.getElem?_toArray, List.getElem?_cons_zero] at cq; clear hSw; go_simp; try with_reducible rfl)
       refine tkS 7 hHeld ?_
       refine tkS 8 hHeld ?_
       refine tkS 9 hHeld ?_ (hy := by intro wq hSw; have cq := (HQ.out.1 wq hSw).1; clear hSw; go_simp; try with_reducible rfl)
       refine tkS 10 hHeld ?_
       refine tkS 11 hHeld ?_
       refine tkS 12 hHeld ?_
       refine tkS 13 hHeld ?_
       refine tkS 14 hHeld ?_ (hy := by intro wq hSw; have cq := (HK.out.1.b.below hSw).m.cell 0; simp only [List.getElem?_toArray, List.getElem?_cons_zero] at cq; clear hSw; go_simp; try with_reducible rfl)
       refine tkS 15 hHeld ?_ (hy := by intro wq hSw; have cq := (HK.out.1.cnt.below hSw).cell 0; simp only [List.getElem?_toArray, List.getElem?_cons_zero] at cq; clear hSw; go_simp; try with_reducible rfl)
       refine tkS 16 hHeld ?_
       refine tkS 17 hHeld ?_
       refine tkS 18 hHeld ?_ (hy := by intro wq hSw; have cq := (HQ.out.1 wq hSw).2; clear hSw; go_simp; try with_reducible rfl)
       refine tkS 19 hHeld ?_ (hy := by intro wq hSw; have hRun := (HQ.out.2.1 wq hSw).str; clear hSw; go_simp; try with_reducible rfl)
       refine tkS 20 hHeld ?_
       refine tkS 21 hHeld ?_ (hy := by intro wq hSw; have hRun := (HK.out.2.2.1.below hSw).str; clear hSw; go_simp; try with_reducible rfl)
       refine tkS 22 hHeld ?_
       refine tkS 23 hHeld ?_
       refine wpAnyH_done (by kernel_rfl) ?_ _
       simp only [Exit.then]
       have HD := Lib.hid hHeld
       have r0 := (HK.out.1.b.below hHeld).r.cell 0
       have f0 := (HK.out.1.b.below hHeld).r.frozen 0
       simp only [List.getElem?_toArray, List.getElem?_cons_zero] at r0
       clear hHeld
       gi_wp2
       exact HFN.out wd HD.out HN.out
      case pos =>
       subst hql
       clear hne1 hne2
       gi_wp2
       refine region_roundOld (by kernel_rfl) (by rintro ⟨a, w, h⟩; exact h) (by kernel_rfl) (fun wd hHeld hSz => ?_)
       have HSz := Lib.hid hSz
       clear hSz
       refine tkS 0 hHeld ?_ (hy := by intro wq hSw; have cq := (HK.out.1.cnt.below hSw).cell 0; simp only [List.getElem?_toArray, List.getElem?_cons_zero] at cq; clear hSw; go_simp; try with_reducible rfl)
       refine tkS 1 hHeld ?_ (hy := by intro wq hSw; have cq := (HK.out.1.b.below hSw).m.cell 0; simp only [List.getElem?_toArray, List.getElem?_cons_zero] at cq; clear hSw; go_simp; try with_reducible rfl)
       refine tkS 2 hHeld ?_
       refine tkS 3 hHeld ?_
       refine tkS 4 hHeld ?_
       refine tkS 5 hHeld ?_ (hy := by intro wq hSw; have cq := (HK.out.1.b.below hSw).m.cell 0; simp only [List.getElem?_toArray, List.getElem?_cons_zero] at cq; clear hSw; go_simp; try with_reducible rfl)
       refine tkS 6 hHeld ?_ (hy := by intro wq hSw; have cq := (HK.out.1.cnt.below hSw).cell 0; simp only [List.getElem?_toArray, List.getElem?_cons_zero] at cq; clear hSw; go_simp; try with_reducible rfl)
       refine tkS 7 hHeld ?_
       refine tkS 8 hHeld ?_
       refine tkS 9 hHeld ?_ (hy := by intro wq hSw; have cq := (HQ.out.1 wq hSw).1; clear hSw; go_simp; try with_reducible rfl)
       refine tkS 10 hHeld ?_
       refine tkS 11 hHeld ?_
       refine tkS 12 hHeld ?_
       refine tkS 13 hHeld ?_
       refine tkS 14 hHeld ?_ (hy := by intro wq hSw; have cq := (HK.out.1.b.below hSw).m.cell 0; simp only [List.getElem?_toArray, List.getElem?_cons_zero] at cq; clear hSw; go_simp; try with_reducible rfl)
       refine tkS 15 hHeld ?_ (hy := by intro wq hSw; have cq := (HK.out.1.cnt.below hSw).cell 0; simp only [List.getElem?_toArray, List.getElem?_cons_zero] at cq; clear hSw; go_simp; try with_reducible rfl)
       refine tkS 16 hHeld ?_
       refine tkS 17 hHeld ?_
       refine tkS 18 hHeld ?_ (hy := by intro wq hSw; have cq := (HQ.out.1 wq hSw).2; clear hSw; go_simp; try with_reducible rfl)
       refine tkS 19 hHeld ?_ (hy := by intro wq hSw; have hRun := (HQ.out.2.1 wq hSw).str; clear hSw; go_simp; try with_reducible rfl)
       refine tkS 20 hHeld ?_
       refine tkS 21 hHeld ?_ (hy := by intro wq hSw; have hRun := (HK.out.2.2.1.below hSw).str; clear hSw; go_simp; try with_reducible rfl)
       refine tkS 22 hHeld ?_
       refine tkS 23 hHeld ?_
       refine wpAnyH_done (by kernel_rfl) ?_ _
       simp only [Exit.then]
       have HD := Lib.hid hHeld
       have r0 := (HK.out.1.b.below hHeld).r.cell 0
       have f0 := (HK.out.1.b.below hHeld).r.frozen 0
       simp only [List.getElem?_toArray, List.getElem?_cons_zero] at r0
       clear hHeld
       have s0 := (HK.out.1.b.below HD.out).s.cell 0
       simp only [List.getElem?_toArray, List.getElem?_cons_zero] at s0
       have hgt := Get_any x b pv pr br M qi wd (HH.out.1.below (Old.trans HK.out.1.b.old HD.out)) (HH.out.2.1.below (Old.trans HK.out.1.b.old HD.out)) (HH.out.2.1.ids _ (List.mem_of_getElem? HK.out.2.1)) (fun q hq => by have := HH.out.2.2.1.len q hq; omega)
       rw [sget_mem HH.out.2.1.rise (List.mem_of_getElem? HK.out.2.1)] at hgt
       simp only at hgt
       gi_wp2
       refine ⟨trivial, ?_⟩
       refine (callsIn_wide.2 hgt).mono ?_
       rintro e w5 ⟨A5, c5, rfl, hO5, hB5⟩
       simp only [Option.getD_some, Option.isSome_some] at hO5 ⊢
       rw [HK.out.2.2.2.1] at hO5 ⊢
       have hO5w := Old.trans HD.out hB5
       have s1 := hO5.rd.str
       have s2 := (HK.out.2.2.1.below hO5w).str
       have k0 := (HK.out.1.cnt.below hO5w).cell 0
       have kf := (HK.out.1.cnt.below hO5w).frozen 0
       simp only [List.getElem?_toArray, List.getElem?_cons_zero] at k0
       obtain ⟨j, hj⟩ : ∃ j, k + 1 = j := ⟨_, rfl⟩
       have hmb := HH.out.2.2.2.2.2.2.2.2.2
       have hkb := HK.out.2.2.2.2.2.2.2.1
       have hjk : (k : Int) + 1 = (j : Int) := by omega
       have hjw : IntKind.i64.wrap (j : Int) = (j : Int) := IntWalk.i64_in _ (by omega)
       have H5 := Lib.hid (And.intro hO5w hj)
       clear hgt hO5 hB5 hO5w hmb hkb hj r0 f0 s0
       gi_wp2
       have hT5 : Turn [kx] w5 (w5.setCell ⟨kx, 0, none⟩ (.int .i64 (j : Int))) := (Turn.refl [kx] _).setCell (.inl (by simp)) _
       have hT6 : Turn [kx] W (w5.setCell ⟨kx, 0, none⟩ (.int .i64 (j : Int))) := (Turn.of_below _ H5.out.1).setCell (.inl (by simp)) _
       have hcn := (HK.out.1.cnt.below H5.out.1).set_ 0 (.int .i64 (j : Int))
       refine ⟨⟨[kx], hT6, by simp, by simp; omega, fun y hy => ?_⟩, ?_⟩
       ·simp at hy; subst hy
        exact ⟨fun hm => by have h1 := HK.out.1.new _ hm; have h2 := HI.out.2.2.2.2.1; omega, Nat.le_refl _⟩
       ·rw [H5.out.2]
        refine ⟨by simpa using hcn, (HK.out.1.b.below H5.out.1).turn hT5 (fun u hu => by simp at hu; subst hu; exact HI.out.2.2.2.2.2.1), HK.out.1.new, Nat.le_trans HK.out.1.size hT6.size, ?_, ?_⟩
        ·have h1 := HKM.out; have h2 := HH.out.2.2.2.2.1; have h3 := H5.out.2; omega
        ·rw [← H5.out.2, take_snoc (recs_get HQ.out.2.2), take_snoc HK.out.2.1, HK.out.1.pre]
   case hdone =>
    intro G1 W hlt hI hK
    have hs8 := HI.out.2.2.2.2.1
    rw [hs8] at hlt hK ⊢
    have hOW := hI.b.old
    have hkw := HI.out.2.2.2.2.2.1
    have hgt := Get_any x b pv pr br M 70000 W (HH.out.1.below hOW) (HH.out.2.1.below hOW) (by unfold wfI; decide) (fun q hq => by have := HH.out.2.2.1.len q hq; omega)
    rw [sget_none (fun q hq => by have := HH.out.2.2.1.ids q hq; omega)] at hgt
    obtain ⟨ml, hml⟩ : ∃ ml, M.length = ml := ⟨_, rfl⟩
    rw [hml] at hI
    have hdec : decide (M = recs rs) = ((ml : Int) == (m : Int)) := by
     have hmr := HH.out.2.2.2.2.1
     have hpre := hI.pre
     rw [← hml, List.take_length] at hpre
     by_cases e : ml = m
     ·rw [List.take_of_length_le (by rw [recs_len, ← hmr]; omega)] at hpre
      rw [decide_eq_true hpre.symm]; simp; omega
     ·rw [decide_eq_false (fun h => e (by rw [← hml, h, recs_len, hmr]))]
      symm; simp; omega
    have s0 := hI.b.s.cell 0
    simp only [List.getElem?_toArray, List.getElem?_cons_zero] at s0
    have HD := Lib.hid (And.intro hlt (And.intro hI (And.intro hK (And.intro hdec (And.intro hs8 hkw)))))
    clear hlt hI hK hdec hml hs8 hkw hOW
    go_wp2_with fail
    refine hgt.mono ?_
    rintro e w9 ⟨A9, c9, rfl, _, hO9⟩
    simp only [Option.getD_none, Option.isSome_none, List.length_nil]
    have hB9 := HD.out.2.1.b.below hO9
    have k0 := (HD.out.2.1.cnt.below hO9).cell 0
    have m0 := hB9.m.cell 0
    have r0 := hB9.r.cell 0
    have rf := hB9.r.frozen 0
    simp only [List.getElem?_toArray, List.getElem?_cons_zero] at k0 m0 r0
    obtain ⟨vb, hvb⟩ : ∃ vb, ((ml : Int) == (m : Int)) = vb := ⟨_, rfl⟩
    have H9 := Lib.hid (And.intro hO9 (And.intro hB9 hvb))
    clear hgt hO9 hB9 s0
    cases vb
    all_goals
     go_wp2_with fail
     rw [HD.out.2.2.2.1, H9.out.2.2]
     have hkw := HD.out.2.2.2.2.2
     have hT1 := (Turn.of_below [w.heap.size + 2] H9.out.1).setCell (p := ⟨w.heap.size + 2, 0, none⟩) (.inl (by simp))
     have hT2 : ∀ V : World, Turn [kx + 1] V (V.putObj (kx + 1) (.deferred none)) := fun V => (Turn.refl [kx + 1] _).putObj (.inl (by simp)) _
     refine ret_cell rfl (((hT1 _).block (kx + 1) (by have := HD.out.1; omega) (by simp; omega)).trans HD.out.2.2.1) (res_cell rfl rfl ((H9.out.2.1.r.set_ 0 _).turn (hT2 _) (by simp; omega))) ⟨rfl, ?_⟩
     exact below_turn (old_set' H9.out.2.1.old (by omega)) (hT2 _) (by intro u hu; simp at hu; omega) (old_set' H9.out.2.1.old (by omega)).size
   case hstop =>
    rintro c2 k W hlt hkN ⟨rfl, hB, hO, hne⟩ hK
    have hs8 := HI.out.2.2.2.2.1
    rw [hs8] at hlt hK ⊢
    have hkw := HI.out.2.2.2.2.2.1
    have hdec : decide (M = recs rs) = false := decide_eq_false hne
    have HD := Lib.hid (And.intro hlt (And.intro hB (And.intro hO (And.intro hK (And.intro hdec hkw)))))
    clear hlt hB hO hK hdec hkw hs8 hne
    go_wp2_with fail
    rw [HD.out.2.2.2.2.1]
    have hkw := HD.out.2.2.2.2.2
    have hT2 : ∀ V : World, Turn [kx + 1] V (V.putObj (kx + 1) (.deferred none)) := fun V => (Turn.refl [kx + 1] _).putObj (.inl (by simp)) _
    refine ret_cell rfl HD.out.2.2.2.1 (res_cell rfl rfl (HD.out.2.1.turn (hT2 _) (by simp; omega))) ⟨rfl, ?_⟩
    exact below_turn HD.out.2.2.1 (hT2 _) (by intro u hu; simp at hu; omega) HD.out.2.2.1.size
end Go.Proofs.YtgjnmpjimhbfgaaGreatDoor
namespace Go.Proofs.YtgjnmpjimhbfgaaGreatDoor
set_option maxRecDepth 100000
open Go.RowKit
def sizeS (n : Int) : Nat := 64 + ((if n < 0 then -(n + 1) else n).toNat % 100)
theorem sizeS_in (n : Int) : 64 ≤ sizeS n ∧ sizeS n ≤ 163 := by unfold sizeS; omega
theorem lsize_any (n : Int) (h0 : -9223372036854775808 ≤ n) (h1 : n ≤ 9223372036854775807) (w : World) : Calls Tryz.prog 10 #[.int .i64 n] w fun e w' => e = .returned (.int .i64 (sizeS n : Int)) ∧ w = w' := by
 unfold sizeS
 by_cases h : n < 0
 ·rw [if_pos h]
  have hd : decide (n < 0) = true := decide_eq_true h
  obtain ⟨k, hk⟩ : ∃ k : Nat, -(n + 1) = k := ⟨(-(n + 1)).toNat, by omega⟩
  have g1 : IntKind.i64.wrap (n + 1) = n + 1 := IntWalk.i64_in _ (by omega)
  have g2 : IntKind.i64.wrap (-(n + 1)) = -(n + 1) := IntWalk.i64_in _ (by omega)
  rw [hk] at g2
  have hm : (k : Int).tmod 100 = ((k % 100 : Nat) : Int) := by rw [Int.tmod_eq_emod_of_nonneg (by omega)]; omega
  rw [hk, Int.toNat_natCast]
  obtain ⟨r, hr⟩ : ∃ r, k % 100 = r := ⟨_, rfl⟩
  have hrl : r < 100 := by omega
  rw [hr] at hm ⊢
  have hr2 : (r : Int) < 100 := by omega
  go_enter Tryz.func10, Tryz.ntmps10
  go_wp2_with fail
  try rw [hk]
  go_wp2_with fail
  go_ret
  exact ⟨by first | rfl | (congr 2; omega), rfl⟩
 ·rw [if_neg h]
  have hd : decide (n < 0) = false := decide_eq_false h
  obtain ⟨k, rfl⟩ : ∃ k : Nat, n = k := ⟨n.toNat, by omega⟩
  have hm : (k : Int).tmod 100 = ((k % 100 : Nat) : Int) := by rw [Int.tmod_eq_emod_of_nonneg (by omega)]; omega
  rw [Int.toNat_natCast]
  obtain ⟨r, hr⟩ : ∃ r, k % 100 = r := ⟨_, rfl⟩
  have hrl : r < 100 := by omega
  rw [hr] at hm ⊢
  have hr2 : (r : Int) < 100 := by omega
  go_enter Tryz.func10, Tryz.ntmps10
  go_wp2_with fail
  go_ret
  exact ⟨by first | rfl | (congr 2; omega), rfl⟩
end Go.Proofs.YtgjnmpjimhbfgaaGreatDoor
