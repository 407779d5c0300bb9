/-
  objstore: Seal and Unseal.
-/
import Derived.Test.YtgjnmpjimhbfgaaGreatDoorZzSm15
import Derived.Test.YtgjnmpjimhbfgaaGreatDoorZzMr6
import Derived.Test.YtgjnmpjimhbfgaaGreatDoorSm19
import Derived.Lib.SlBytesConst
import Derived.Test.YtgjnmpjimhbfgaaGreatDoorZzMw4
namespace Go.Proofs.YtgjnmpjimhbfgaaGreatDoor
set_option maxRecDepth 100000
open Go.RowKit
def sealF (k iv b : List UInt8) : List UInt8 × Bool := if iv.length = 12 then (if (allF 5 true k (12 :: iv) b).2 = 0 then (iv ++ (allF 5 true k (12 :: iv) b).1, true) else ([], false)) else ([], false)
def unsealF (k s : List UInt8) : List UInt8 × Bool := if s.length < 12 then ([], false) else ((allF 5 false k (12 :: s.take 12) (s.drop 12)).1, (allF 5 false k (12 :: s.take 12) (s.drop 12)).2 == 0)
def SealRes (w : World) (r : List UInt8 × Bool) (e : Ending) (w' : World) : Prop := ∃ A n c, e = .returned (.tuple #[.slice A n c, .bool r.2]) ∧ Own w' w.heap.size (.slice A n c) r.1 ∧ Old w w'
theorem seal_any (A C B : Option Addr) (mk ck m cm n cn : Nat) (k iv b : List UInt8) (w : World) (hk : Rd w A mk ck k) (hp : Rd w C m cm iv) (hb : Rd w B n cn b) (hn : n ≤ 90000) (hm : m ≤ 1000) :
  Calls Tryz.prog 18 #[.slice A mk ck, .slice C m cm, .slice B n cn] w (SealRes w (sealF k iv b)) := by
 have hml := hp.1
 obtain ⟨TG, hTG⟩ : ∃ TG : Ending → World → Prop, SealRes w (sealF k iv b) = TG := ⟨_, rfl⟩
 by_cases h12 : m = 12
 ·subst h12
  have hpa := stparam_any C 12 cm iv w hp (by omega)
  have hal := (all_back5 k (12 :: iv) b).2
  obtain ⟨V, hV⟩ : ∃ V, allF 5 true k (12 :: iv) b = V := ⟨_, rfl⟩
  obtain ⟨X, v⟩ := V
  rw [hV] at hal
  have hS : sealF k iv b = if v = 0 then (iv ++ X, true) else ([], false) := by
   unfold sealF
   rw [if_pos hml.symm, hV]
  rw [hS] at hTG
  have hbl := hb.1
  have HH := Lib.hid (And.intro hk (And.intro hp (And.intro hb (And.intro hV (And.intro hml (And.intro hal hbl))))))
  clear hk hp hb hV hS hal hml hbl
  rw [show SealRes w (sealF k iv b) = TG by rw [← hTG, sealF, if_pos HH.out.2.2.2.2.1.symm, HH.out.2.2.2.1]]
  go_enter Tryz.func18, Tryz.ntmps18
  go_wp2_with fail
  refine hpa.mono ?_
  rintro e w1 ⟨A1, n1, c1, rfl, hO1, hb1⟩
  have hn1 : n1 ≤ 1000 := by have h1 := hO1.len; have h2 := HH.out.2.2.2.2.1; rw [List.length_cons] at h1; omega
  have H1 := Lib.hid (And.intro hO1 hb1)
  clear hO1 hb1 hpa
  go_wp2_with fail
  refine (modesAll_any 5 true A A1 B mk ck n1 c1 n cn k (12 :: iv) b w1 (HH.out.1.below H1.out.2) H1.out.1.rd (HH.out.2.2.1.below H1.out.2) (by omega) (by omega)).mono ?_
  rintro e w2 ⟨A2, n2, c2, rfl, hO2, hB2⟩
  rw [HH.out.2.2.2.1] at hO2
  simp only [HH.out.2.2.2.1]
  have hn2 : n2 ≤ 100000 := by have h1 := hO2.len; have h2 := HH.out.2.2.2.2.2; simp only at h1 h2; omega
  have H2 := Lib.hid (And.intro hO2 (Old.trans H1.out.2 hB2))
  clear hO2 hB2
  by_cases hv : v = 0
  ·subst hv
   rw [if_pos rfl] at hTG
   go_wp2_with fail
   refine (rclone_own C 12 cm iv w2 (HH.out.2.1.below H2.out.2) (by omega)).mono ?_
   rintro e w3 ⟨A3, c3, rfl, hO3, hB3⟩
   have H3 := Lib.hid (And.intro hO3 (And.intro hB3 (Old.trans H2.out.2 hB3)))
   clear hO3 hB3
   obtain ⟨n3, hn3⟩ : ∃ n3, iv.length = n3 := ⟨_, rfl⟩
   rw [hn3] at H3
   rw [hn3]
   have hn3b : n3 ≤ 12 := by have := HH.out.2.2.2.2.1; omega
   have Hn3 := Lib.hid hn3
   clear hn3
   go_wp2_with (at_builtin; refine wp_app2 (.tmp 24) (.tmp 25) w2.heap.size (.slice A3 n3 c3) iv H3.out.1 H3.out.2.1.size A2 n2 c2 X (H2.out.1.rd.below H3.out.2.1) (by have h1 := Hn3.out; have h2 : X.length ≤ b.length + 32 := HH.out.2.2.2.2.2.1; have h3 := HH.out.2.2.2.2.2.2; omega) rfl rfl rfl rfl ?_; intro A9 n9 c9 w9 hn9 hG9; have H9 := Lib.hid hG9; clear hG9 hn9)
   rw [← hTG]
   exact ⟨A9, n9, c9, rfl, H9.out.own.mono H2.out.2.size, Old.trans H2.out.2 (Below.trans H3.out.2.1 H9.out.below)⟩
  ·have hvb : (v != 0) = true := by simpa using hv
   rw [if_neg hv] at hTG
   clear hv
   go_wp2_with fail
   rw [← hTG]
   exact ⟨none, 0, 0, rfl, Own.nil _ _, H2.out.2⟩
 ·have t1 : ((m : Int) != 12) = true := by simp; omega
  have t2 : ¬ (m : Int) = 12 := by omega
  have hS : sealF k iv b = ([], false) := by
   unfold sealF
   rw [if_neg (by omega)]
  rw [hTG]
  rw [hS] at hTG
  clear hk hp hb hml h12 hS
  go_enter Tryz.func18, Tryz.ntmps18
  go_wp2_with fail
  rw [← hTG]
  exact ⟨none, 0, 0, rfl, Own.nil _ _, Old.refl _⟩
theorem unseal_any (A C : Option Addr) (mk ck m cm : Nat) (k s : List UInt8) (w : World) (hk : Rd w A mk ck k) (hp : Rd w C m cm s) (hm : m ≤ 90000) :
  Calls Tryz.prog 19 #[.slice A mk ck, .slice C m cm] w (SealRes w (unsealF k s)) := by
 have hml := hp.1
 obtain ⟨TG, hTG⟩ : ∃ TG : Ending → World → Prop, SealRes w (unsealF k s) = TG := ⟨_, rfl⟩
 by_cases h12 : 12 ≤ m
 ·have t1 : ¬ (m : Int) < 12 := by omega
  have t2 : decide ((m : Int) < 12) = false := decide_eq_false t1
  obtain ⟨hS1, hR1⟩ := hp.st_to (k := 12) h12
  rw [show ((12 : Nat) : Int) = 12 from rfl] at hS1
  obtain ⟨A', n', c', hn', hS2, hR2, _⟩ := hp.cut_ex2 (k := 12) h12
  rw [show ((12 : Nat) : Int) = 12 from rfl] at hS2
  have hpa : ∀ W, Old w W → Calls Tryz.prog 45 #[.slice C 12 cm] W (fun e w' => ∃ A' n' c', e = .returned (.slice A' n' c') ∧ Own w' W.heap.size (.slice A' n' c') (12 :: s.take 12) ∧ Old W w') := fun W ho => stparam_any C 12 cm (s.take 12) W (hR1.below ho) (by omega)
  obtain ⟨V, hV⟩ : ∃ V, allF 5 false k (12 :: s.take 12) (s.drop 12) = V := ⟨_, rfl⟩
  obtain ⟨X, v⟩ := V
  have hS : unsealF k s = (X, v == 0) := by
   unfold unsealF
   rw [if_neg (by omega), hV]
  have HH := Lib.hid (And.intro hk (And.intro hp (And.intro hR2 (And.intro hV hS))))
  clear hk hp hR1 hR2 hV hS hml h12
  rw [hTG]
  have hnb : n' ≤ 90000 := by omega
  clear hn' hm
  go_enter Tryz.func19, Tryz.ntmps19
  go_wp2_with fail
  refine region_old (by kernel_rfl) (fun wd hHeld hSz => ?_)
  have HSz := Lib.hid hSz
  clear hSz
  refine tkS 0 hHeld ?_
  refine tkS 1 hHeld ?_
  refine tkS 2 hHeld ?_ (hy := by intro wq hSw; have hRun := hS1 wq; clear hSw; go_simp; try with_reducible rfl)
  refine tkS 4 hHeld ?_
  refine tkS 5 hHeld ?_ (hy := by intro wq hSw; have hRun := hS2 wq; clear hSw; go_simp; try with_reducible rfl)
  refine rdL 3 (fun K hK => ?_)
  go_simp
  refine (hpa _ hHeld).mono ?_
  rintro e w1 ⟨A1, n1, c1, rfl, hO1, hb1⟩
  have hn1 : n1 ≤ 1000 := by have h1 := hO1.len; rw [List.length_cons, List.length_take] at h1; omega
  have H1 := Lib.hid (And.intro hO1 (Old.trans hHeld hb1))
  clear hO1 hb1 hpa
  refine hK.out _ _ H1.out.2 (fun hHeld => ?_)
  clear hK K
  try simp only [Act.put, sA, sB, sC]
  refine rdL 6 (fun K hK => ?_)
  go_simp
  refine (modesAll_any 5 false A A1 A' mk ck n1 c1 n' c' k (12 :: s.take 12) (s.drop 12) w1 (HH.out.1.below H1.out.2) H1.out.1.rd (HH.out.2.2.1.below H1.out.2) (by omega) (by omega)).mono ?_
  rintro e w2 ⟨A2, n2, c2, rfl, hO2, hB2⟩
  rw [HH.out.2.2.2.1] at hO2
  simp only [HH.out.2.2.2.1]
  have H2 := Lib.hid (And.intro hO2 (Old.trans H1.out.2 hB2))
  clear hO2 hB2
  refine hK.out _ _ H2.out.2 (fun hHeld => ?_)
  clear hK K
  try simp only [Act.put, sA, sB, sC]
  refine tkS 7 hHeld ?_
  refine tkS 8 hHeld ?_
  refine tkS 9 hHeld ?_
  refine tkS 10 hHeld ?_
  refine tkS 11 hHeld ?_
  refine wpAnyH_done (by kernel_rfl) ?_ _
  refine NoPanic.normal ?_
  try go_at_K
  go_wp2_with fail
  rw [← hTG, HH.out.2.2.2.2]
  exact ⟨A2, n2, c2, rfl, H2.out.1.mono H1.out.2.size, H2.out.2⟩
 ·have t1 : (m : Int) < 12 := by omega
  have t2 : decide ((m : Int) < 12) = true := decide_eq_true t1
  have hS : unsealF k s = ([], false) := by
   unfold unsealF
   rw [if_pos (by omega)]
  rw [hTG]
  rw [hS] at hTG
  clear hk hp hml h12 hS
  go_enter Tryz.func19, Tryz.ntmps19
  go_wp2_with fail
  rw [← hTG]
  exact ⟨none, 0, 0, rfl, Own.nil _ _, Old.refl _⟩
attribute [local go_sem] Oper.semAt_some
theorem rd_cst {w : World} {cs : Array Value} {fr : Nat × Nat} (l : List UInt8) (hcs : cs = (l.map B).toArray) (n : Nat) (hn : n = l.length) (hl : l.length ≤ 1000000) : Rd (w.alloc (.cells cs 5 fr)) (some ⟨w.heap.size, 0, none⟩) n n l := by
 subst hcs hn
 exact Rd.of_blk (heap_alloc_new w _) (by unfold maxLen; omega)
def ComLive (w : World) (x v d L n S k : Nat) (M' : List SRec) (e : Ending) (w' : World) : Prop :=
 ∃ s' ms' b', e = .returned (.int .i64 0) ∧ StAt w' x v d L b' (n + 1) S s' ms' M' ∧ FOk s' (k + 1000) ∧ w.heap.size ≤ b' ∧ KAt w' ∧ Turn [x, d, L, v] w w'
theorem stcommit_live {w : World} {x v d L b n S k : Nat} {s : Dsk} {ms : List (List UInt8)} {M : List SRec} (h : StAt w x v d L b n S s ms M) (A : Option Addr) (m c : Nat) (cs : List PC) (hC : ChsAt w A m cs) (hm0 : 0 < m) (hm : m ≤ 4096) (hok : cs.all okC = true)
  (hld : sload (schgs M cs) ≤ 64 * S) (hK : KAt w) (hn : n ≤ 99) (hf : FOk s k) (hk : k < 10000) (h0 : 64 ≤ S) (h1 : S ≤ 1000) (hN : M.length ≤ 90000) (hlen : ∀ q ∈ cs, q.l.length ≤ 100000) :
  Calls Tryz.prog 14 #[.pointer (some ⟨x, 0, none⟩), .slice A m c] w (ComLive w x v d L n S k (schgs M cs)) := by
 refine (stcommit_gen h.q A m c cs hC hm0 hm hok hld hK hn hf hk h0 h1 hN hlen).mono ?_
 rintro e w' ⟨ok, s', b', hts, rfl, hD, hV, hB, hM', _, hb', hK', hT⟩
 have hgl := h.mnt.G.len
 obtain ⟨s2, e2, hG2, hF2, hn2, hfu2, hde2⟩ := turn_live (m2 := after ms (putsP ms (pagesB (schgs M cs)) (pageN (pagesB (schgs M cs))))) h.mnt.G hf h.mnt.fu h.mnt.de (by rw [after_len]; exact hgl)
 rw [hts] at e2
 injection e2 with ea eb
 subst ea eb
 rw [h.mnt.sn] at hgl
 have hfi := schgs_fine (fun p hp => ⟨h.fine.ids p hp, h.fine.len p hp⟩) hok
 refine ⟨s', _, b', rfl, ⟨hB, ⟨hD, hV, hG2, hn2.trans h.mnt.sn, hde2, hfu2⟩, hM', ⟨fun p hp => (hfi p hp).1, fun p hp => (hfi p hp).2, by omega⟩, ?_, hld⟩, hF2, hb', hK', hT⟩
 refine Vol.after h.vol.full ?_
 rw [hgl]
 exact room_fits hld h0
theorem iterFN (f : FuncId) (lb : Array Value) (w : World) : (binOp .eql 48 (.func (.func f) #[] lb) .nilFunc).run Tryz.prog w = .ok (.bool false) w := by kernel_rfl
theorem mark_any {w : World} {g n c : Nat} {C : Array Value} (h : Blk w g 5 C) : ∃ w', (convert 32 32 (.slice (some ⟨g, 0, none⟩) n c)).run Tryz.prog w = .ok (.slice (some ⟨g, 0, none⟩) n c) w' ∧ w'.heap[g]? = some (.cells C 5 (C.size, C.size + 1)) ∧ Turn [g] w w' := by
 have hsh : w.shape? g = some (5, C.size) := by unfold World.shape?; rw [h]
 refine ⟨w.freeze ⟨g, C.size, none⟩ 1, ?_, ?_, ?_⟩
 ·simp [convert, run_underlying Tryz.underlying32, run_underlying Tryz.underlying5, markStringish, hsh]
 ·unfold World.freeze
  rw [if_neg (by decide)]
  simp only [Array.getElem?_modify]
  rw [if_pos trivial, h]
  rfl
 ·unfold World.freeze
  rw [if_neg (by decide)]
  exact ⟨rfl, rfl, rfl, by simp, fun k _ hk => by simp only [Array.getElem?_modify]; rw [if_neg (by simp at hk; exact fun e => hk e.symm)]⟩
structure Z3 (w0 W : World) (p0 p1 p2 : Option Nat) (mk : Bool) : Prop where
 old : Old w0 W
 z0 : ∀ g, p0 = some g → Rd W (some ⟨g, 0, none⟩) 16 16 (zs 16)
 z1 : ∀ g, p1 = some g → Rd W (some ⟨g, 0, none⟩) 12 12 (zs 12)
 z2 : ∀ g, p2 = some g → w0.heap.size ≤ g ∧ g < W.heap.size ∧ (if mk then Rd W (some ⟨g, 0, none⟩) 1 1 [109] else Blk W g 5 #[.int .u8 109])
 ne : ∀ g h, p2 = some g → (p0 = some h ∨ p1 = some h) → h ≠ g
 lt : ∀ h, (p0 = some h ∨ p1 = some h) → h < W.heap.size
theorem Z3.start {w0 W : World} (h : Old w0 W) : Z3 w0 W none none none false := ⟨h, (fun _ e => by cases e), (fun _ e => by cases e), (fun _ e => by cases e), (fun _ _ e => by cases e), (fun _ e => by rcases e with e | e <;> cases e)⟩
theorem Z3.more {w0 W W' : World} {p0 p1 p2 : Option Nat} {mk : Bool} (h : Z3 w0 W p0 p1 p2 mk) (hb : Old W W') : Z3 w0 W' p0 p1 p2 mk :=
 ⟨Old.trans h.old hb, fun g e => (h.z0 g e).below hb, fun g e => (h.z1 g e).below hb, fun g e => ⟨(h.z2 g e).1, Nat.lt_of_lt_of_le (h.z2 g e).2.1 hb.size, by
  have := (h.z2 g e).2.2
  cases mk with
  | true => exact Rd.below this hb
  | false => exact Blk.below this hb⟩, h.ne, fun x e => Nat.lt_of_lt_of_le (h.lt x e) hb.size⟩
section
variable {ops : Array Oper} {o : Oper} {a : Act} {w0 w : World} {K : Act → World → Prop} {Q : Exit → Act → World → Prop} {E : Prop} {p0 p1 p2 : Option Nat} {mk : Bool}
theorem step_z16 (h : Z3 w0 w none p1 p2 mk) (hg : o.guard = none) (ho : o.op = .makeSlice 32 (.const (.int .i64 16)) (.const (.int .i64 16)))
  (hK : ∀ w', Z3 w0 w' (some w.heap.size) p1 p2 mk → K (a.put o.dst (.slice (some ⟨w.heap.size, 0, none⟩) 16 16)) w') : if Region.wanted o (yielded ops a.tmps) = true then Oper.wp Tryz.prog o a w K Q else E := by
 rw [if_pos (by simp [Region.wanted, hg])]
 have hr := Tryz.prog_make 16 (by omega) w
 rw [show ((16 : Nat) : Int) = 16 from rfl] at hr
 unfold Oper.wp
 simp [execOp, ho, Act.eval, hr, Result.andThen]
 have hm := h.more ((Old.refl w).alloc (.cells (madeCells #[.int .u8 0] 16) 5))
 refine hK _ ⟨hm.old, fun g e => ?_, hm.z1, hm.z2, fun g x e e2 => ?_, fun x e => ?_⟩
 ·cases e; exact (Own.made w 16 (by unfold maxLen; omega)).rd
 ·rcases e2 with e2 | e2
  ·cases e2; have := (h.z2 g e).2.1; omega
  ·exact h.ne g x e (.inr e2)
 ·rcases e with e | e
  ·cases e; simp
  ·exact hm.lt x (.inr e)
theorem step_z12 (h : Z3 w0 w p0 none p2 mk) (hg : o.guard = none) (ho : o.op = .makeSlice 32 (.const (.int .i64 12)) (.const (.int .i64 12)))
  (hK : ∀ w', Z3 w0 w' p0 (some w.heap.size) p2 mk → K (a.put o.dst (.slice (some ⟨w.heap.size, 0, none⟩) 12 12)) w') : if Region.wanted o (yielded ops a.tmps) = true then Oper.wp Tryz.prog o a w K Q else E := by
 rw [if_pos (by simp [Region.wanted, hg])]
 have hr := Tryz.prog_make 12 (by omega) w
 rw [show ((12 : Nat) : Int) = 12 from rfl] at hr
 unfold Oper.wp
 simp [execOp, ho, Act.eval, hr, Result.andThen]
 have hm := h.more ((Old.refl w).alloc (.cells (madeCells #[.int .u8 0] 12) 5))
 refine hK _ ⟨hm.old, hm.z0, fun g e => ?_, hm.z2, fun g x e e2 => ?_, fun x e => ?_⟩
 ·cases e; exact (Own.made w 12 (by unfold maxLen; omega)).rd
 ·rcases e2 with e2 | e2
  ·exact h.ne g x e (.inl e2)
  ·cases e2; have := (h.z2 g e).2.1; omega
 ·rcases e with e | e
  ·exact hm.lt x (.inl e)
  ·cases e; simp
theorem step_zm (h : Z3 w0 w p0 p1 none false) (hg : o.guard = none) (ho : o.op = .buildSlice 32 1 #[(0, .const (.int .u8 109))])
  (hK : ∀ w', Z3 w0 w' p0 p1 (some w.heap.size) false → K (a.put o.dst (.slice (some ⟨w.heap.size, 0, none⟩) 1 1)) w') : if Region.wanted o (yielded ops a.tmps) = true then Oper.wp Tryz.prog o a w K Q else E := by
 rw [if_pos (by simp [Region.wanted, hg])]
 have hm := h.more ((Old.refl w).alloc (.cells #[.int .u8 109] 5))
 have hb : Z3 w0 (w.alloc (.cells #[.int .u8 109] 5)) p0 p1 (some w.heap.size) false := ⟨hm.old, hm.z0, hm.z1, fun g e => by
  cases e
  exact ⟨h.old.size, by simp, Blk.new w _ _⟩, fun g x e e2 => by
  cases e
  have := h.lt x e2
  omega, hm.lt⟩
 have hk := hK _ hb
 clear hK hm hb h
 unfold Oper.wp
 simp [execOp, ho, Act.eval, go_sem, Result.andThen]
 exact hk
theorem step_zk {g : Nat} (h : Z3 w0 w p0 p1 (some g) false) (t : Tmp) (hg : o.guard = none) (ho : o.op = .convert 32 32 (.tmp t)) (ht : a.eval (.tmp t) = .slice (some ⟨g, 0, none⟩) 1 1)
  (hK : ∀ w', Z3 w0 w' p0 p1 (some g) true → K (a.put o.dst (.slice (some ⟨g, 0, none⟩) 1 1)) w') : if Region.wanted o (yielded ops a.tmps) = true then Oper.wp Tryz.prog o a w K Q else E := by
 rw [if_pos (by simp [Region.wanted, hg])]
 obtain ⟨h1, h2, h3⟩ := h.z2 g rfl
 obtain ⟨w', hr, hb, hT⟩ := mark_any (n := 1) (c := 1) h3
 have ht' : a.tmps[t]?.getD undef = .slice (some ⟨g, 0, none⟩) 1 1 := by simpa [Act.eval] using ht
 unfold Oper.wp
 simp [execOp, ho, ht, hr, Result.andThen]
 refine hK _ ⟨below_turn h.old hT (by intro u hu; simp at hu; subst hu; exact h1) h.old.size, fun x e => (h.z0 x e).turn hT (fun ad ea hm => ?_), fun x e => (h.z1 x e).turn hT (fun ad ea hm => ?_), fun x e => ?_, h.ne, fun x e => Nat.lt_of_lt_of_le (h.lt x e) hT.size⟩
 ·cases ea; simp at hm; exact h.ne g x rfl (.inl e) hm
 ·cases ea; simp at hm; exact h.ne g x rfl (.inr e) hm
 ·cases e
  exact ⟨h1, Nat.lt_of_lt_of_le h2 hT.size, Rd.of_blk (l := [109]) hb (by unfold maxLen; simp)⟩
end
theorem chs_one {w : World} (id : Int) (A : Option Addr) (n c : Nat) (l : List UInt8) (h : Rd w A n c l) (hid : wfI id) : ChsAt (w.alloc (.cells #[.int .i64 id, .bool false, .slice A n c] 34)) (some ⟨w.heap.size, 0, none⟩) 1 [⟨id, false, A, n, c, l⟩] :=
 ⟨Blk.rdC Tryz.eC (Blk.new w 34 #[.int .i64 id, .bool false, .slice A n c]) rfl, fun p hp => by rw [List.mem_singleton] at hp; subst hp; exact h.below ((Old.refl w).alloc _), fun p hp => by rw [List.mem_singleton] at hp; subst hp; exact hid⟩
theorem sealF_ok (k iv b : List UInt8) (hk : keyOk k) (hi : iv.length = 12) : (sealF k iv b).2 = true ∧ unsealF k (sealF k iv b).1 = (b, true) := by
 have hab := all_back 5 k (12 :: iv) b (fun h => by omega)
 have hp : parOk 5 (12 :: iv) := by
  unfold parOk gcmOk
  simp
  omega
 have hz : (allF 5 true k (12 :: iv) b).2 = 0 := by
  unfold allF
  rw [if_neg (by decide), if_neg (fun h => h hk)]
  show (if ¬ parOk 5 (12 :: iv) then (([] : List UInt8), (113 : Int)) else (if ((PSof 5 true k (12 :: iv)).fin b).2 = 0 then ((PSof 5 true k (12 :: iv)).front b ++ ((PSof 5 true k (12 :: iv)).fin b).1, 0) else ([], ((PSof 5 true k (12 :: iv)).fin b).2))).2 = 0
  rw [if_neg (fun h => h hp)]
  have hf : ((PSof 5 true k (12 :: iv)).fin b).2 = 0 := by
   unfold PS.fin
   rw [if_neg (show ¬ (PSof 5 true k (12 :: iv)).mode = 4 from (by show ¬ (5 : Nat) = 4; decide)), if_pos (show (PSof 5 true k (12 :: iv)).mode = 5 from rfl), if_pos (show (PSof 5 true k (12 :: iv)).enc = true from rfl)]
  rw [if_pos hf]
 have hb := hab.2.1 hz
 unfold sealF
 rw [if_pos hi, if_pos hz]
 refine ⟨rfl, ?_⟩
 unfold unsealF
 simp only
 rw [if_neg (by rw [List.length_append]; omega), List.take_append_of_le_length (by omega), List.take_of_length_le (by omega), List.drop_append_of_le_length (by omega), List.drop_of_length_le (by omega), List.nil_append, hb]
 rfl
theorem sealF_len (k iv b : List UInt8) : (sealF k iv b).1.length ≤ iv.length + b.length + 32 := by
 have hal := (all_back 5 k (12 :: iv) b (fun h => by omega)).2.2
 unfold sealF
 split
 ·split
  ·simp only [List.length_append]; omega
  ·simp
 ·simp
set_option maxHeartbeats 8000000 in
theorem stbegun_any (w : World) (hK : KAt w) : Calls Tryz.prog 9 #[] w fun e w' => e = .returned (.bool true) ∧ Old w w' := by
 have h80 := dk_new 80 (by omega) (by omega) w
 rw [show ((80 : Nat) : Int) = 80 from rfl] at h80
 have kc := fun (w : World) (C : Array Value) (n c : Nat) => Lib.run_convert_bytes_const (P := Tryz.prog) w 32 5 C n c Tryz.underlying32 Tryz.underlying5
 have hne := neStore
 have HW := Lib.hid hK
 clear hK
 refine calls_of_marks Tryz.func9 rfl ?_
 simp only [Tryz.ntmps9, List.size_toArray, List.length_nil, Nat.reduceSub, Array.replicate_succ, Array.replicate_zero, List.push_toArray, List.append_toArray, List.nil_append, List.cons_append]
 go_wp2_with fail
 refine h80.mono ?_
 rintro e w1 ⟨d, L, rfl, hD1, hdw, hLw, hO1⟩
 have hfm := stformat_any d L 80 (Dsk.new 80) w1 hD1 (zeroD_new 80) rfl (by omega) (by omega) (new_fok 80) ⟨rfl, rfl⟩ (HW.out.below hO1)
 have H1 := Lib.hid (And.intro hdw (And.intro hLw hO1))
 clear hD1 hdw hLw hO1 h80
 go_wp2_with fail
 refine hfm.mono ?_
 rintro e w2 ⟨s2, ms2, rfl, hDv2, hV2, hl2, hF2, hK2, hT2⟩
 have hO2 : Old w w2 := below_turn H1.out.2.2 hT2 (by have h1 := H1.out.1; have h2 := H1.out.2.1; simp; omega) H1.out.2.2.size
 have hop := stopen_any hDv2 (by omega) (by omega) (by omega) hV2 Fine.nil Rising.nil (by simp [sload]) (by simp) hK2
 have H2 := Lib.hid (And.intro hF2 (And.intro hK2 hO2))
 clear hfm hDv2 hV2 hl2 hF2 hK2 hT2 hO2
 go_wp2_with fail
 refine hop.mono ?_
 rintro e w3 ⟨x, v, b, rfl, hS3, hx3, hv3, hb3, hO3⟩
 have hO3w : Old w w3 := Old.trans H2.out.2.2 hO3
 have hA3 := (rd_cst (w := w3) (fr := (3, 4)) [97, 98, 99] (cs := #[.int .u8 97, .int .u8 98, .int .u8 99]) rfl 3 rfl (by simp))
 have hcs := chs_one 7 _ 3 3 _ hA3 (by unfold wfI; decide)
 obtain ⟨w4, hw4⟩ : ∃ w4, (w3.alloc (.cells #[.int .u8 97, .int .u8 98, .int .u8 99] 5 (3, 4))).alloc (.cells #[.int .i64 7, .bool false, .slice (some ⟨w3.heap.size, 0, none⟩) 3 3] 34) = w4 := ⟨_, rfl⟩
 have hO4 : Old w3 w4 := by rw [← hw4]; exact ((Old.refl _).alloc _).alloc _
 rw [hw4, show (w3.alloc (.cells #[.int .u8 97, .int .u8 98, .int .u8 99] 5 (3, 4))).heap.size = w3.heap.size + 1 by simp] at hcs
 have hcm := stcommit_live (hS3.below hO4) _ 1 1 _ hcs (by omega) (by omega) rfl (by show 3 + 8 + 0 ≤ 64 * 80; omega) ((H2.out.2.1.below hO3).below hO4) (by omega) H2.out.1 (by omega) (by omega) (by omega) (by simp) (fun q hq => by rw [List.mem_singleton] at hq; subst hq; simp)
 have hsz : w.heap.size ≤ d ∧ w.heap.size ≤ L := ⟨H1.out.1, H1.out.2.1⟩
 have H3 := Lib.hid (And.intro (Nat.le_trans H2.out.2.2.size hx3) (And.intro (Nat.le_trans H2.out.2.2.size hv3) (And.intro (Old.trans hO3w hO4) hsz)))
 clear hop hS3 hx3 hv3 hb3 hO3 hO3w hA3 hcs hO4 hsz
 go_wp2_with fail
 try rw [hw4]
 clear hw4
 refine hcm.mono ?_
 rintro e w5 ⟨s5, ms5, b5, rfl, hS5, hF5, hb5, hK5, hT5⟩
 have hO5 : Old w w5 := below_turn H3.out.2.2.1 hT5 (by intro u hu; simp at hu; rcases hu with rfl | rfl | rfl | rfl; exact H3.out.1; exact H3.out.2.2.2.1; exact H3.out.2.2.2.2; exact H3.out.2.1) H3.out.2.2.1.size
 rw [show schgs [] [⟨7, false, some ⟨w3.heap.size, 0, none⟩, 3, 3, [97, 98, 99]⟩] = [(7, [97, 98, 99])] from rfl] at hS5
 have hgt := Get_any x b5 _ _ _ _ 7 w5 hS5.blk hS5.map (by unfold wfI; decide) (by intro q hq; rw [List.mem_singleton] at hq; subst hq; simp)
 rw [show sget [(7, [97, 98, 99])] 7 = some [97, 98, 99] from rfl] at hgt
 have H5 := Lib.hid (And.intro hS5 (And.intro hO5 hK5))
 clear hcm hS5 hF5 hb5 hK5 hT5 hO5
 go_wp2_with fail
 refine hgt.mono ?_
 rintro e w6 ⟨A6, c6, rfl, hO6, hB6⟩
 rw [show (some [97, 98, 99] : Option (List UInt8)).getD [] = [97, 98, 99] from rfl, show ([97, 98, 99] : List UInt8).length = 3 from rfl] at hO6
 rw [show (some [97, 98, 99] : Option (List UInt8)).getD [] = [97, 98, 99] from rfl, show ([97, 98, 99] : List UInt8).length = 3 from rfl]
 have H6 := Lib.hid (And.intro hO6 (And.intro (H5.out.1.below hB6) (Old.trans H5.out.2.1 hB6)))
 clear hgt hO6 hB6
 go_wp2_with fail
 refine (stall_any (some ⟨x, 0, none⟩) w6).mono ?_
 rintro e w7 ⟨rfl, hw7⟩
 have hif := iterFN
 have hO7 : Old w6 w7 := by rw [hw7]; exact (Old.refl _).alloc _
 have hbx7 : w7.cell? ⟨w6.heap.size, 0, none⟩ = some (.pointer (some ⟨x, 0, none⟩)) := by rw [hw7]; exact (Blk.new w6 28 #[.pointer (some ⟨x, 0, none⟩)]).cell 0
 have hs7 : w7.heap.size = w6.heap.size + 1 := by rw [hw7]; simp
 obtain ⟨kx, hkx⟩ : ∃ kx, w7.heap.size = kx := ⟨_, rfl⟩
 obtain ⟨w8, hw8⟩ : ∃ w8, w7.alloc (.cells #[.int .i64 0] 3) = w8 := ⟨_, rfl⟩
 have hk8 : Blk w8 kx 3 #[.int .i64 0] := by rw [← hw8, ← hkx]; exact Blk.new _ _ _
 have hO8 : Old w7 w8 := by rw [← hw8]; exact (Old.refl _).alloc _
 have hS7 := H6.out.2.1.below hO7
 have hS8 := hS7.below hO8
 have hit := all_iter w7 w6.heap.size x b5 _ _ _ _ hbx7 (by omega) hS7.blk hS7.map (by simp) (by intro q hq; rw [List.mem_singleton] at hq; subst hq; simp)
 rw [show ([(7, [97, 98, 99])] : List SRec).length = 1 from rfl] at hit
 have hcn := CntI.start hk8
 rw [hkx] at hit
 have hk8s : w8.heap.size = kx + 1 := by rw [← hw8, ← hkx]; simp
 have HI := Lib.hid (And.intro hit (And.intro hcn (And.intro hS8 (And.intro (Old.trans H6.out.2.2 (Old.trans hO7 hO8)) (And.intro hO8 (And.intro hO7 hk8s))))))
 have hkw : w.heap.size ≤ kx := by rw [← hkx]; exact (Old.trans H6.out.2.2 hO7).size
 have HKW := Lib.hid (And.intro hkw (And.intro hkx hw8))
 clear hw7 hbx7 hk8 hS8 hS7 hit hcn hO7 hO8 hs7 hk8s hkw hkx hw8
 go_wp2_with fail
 rw [HKW.out.2.2, HKW.out.2.1]
 refine wp_rangeCnt (M := [(7, [97, 98, 99])]) HI.out.1 HI.out.2.2.2.2.1 HI.out.2.1.cnt rfl (fun _ _ => by kernel_rfl) rfl ?hbody ?hdone
 case hbody =>
  intro l k u1 u2 W R hk c0 f0 hR
  obtain rfl : k = 0 := by simp at hk; exact hk
  have HR := Lib.hid hR
  clear hR hk
  gi_wp2
  exact HR.out _
 case hdone =>
  intro W hlt hT hc hK
  rw [HI.out.2.2.2.2.2.2] at hlt hK ⊢
  have hO6 : Old w6 W := below_turn (Old.trans HI.out.2.2.2.2.2.1 HI.out.2.2.2.2.1) hT (by intro u hu; simp at hu; subst hu; rw [← HKW.out.2.1]; exact HI.out.2.2.2.2.2.1.size) (Old.trans HI.out.2.2.2.2.2.1 HI.out.2.2.2.2.1).size
  have HD := Lib.hid (And.intro hlt (And.intro hO6 (And.intro hc hK)))
  obtain ⟨Z16, hz16⟩ : ∃ Z, zs 16 = Z := ⟨_, rfl⟩
  obtain ⟨Z12, hz12⟩ : ∃ Z, zs 12 = Z := ⟨_, rfl⟩
  have hk16 : keyOk Z16 := by rw [← hz16]; exact .inl (zs_len 16)
  have hl12 : Z12.length = 12 := by rw [← hz12]; exact zs_len 12
  obtain ⟨hs1, hs2⟩ := sealF_ok Z16 Z12 [109] hk16 hl12
  have hs3 := sealF_len Z16 Z12 [109]
  obtain ⟨SB, hSB⟩ : ∃ V, sealF Z16 Z12 [109] = V := ⟨_, rfl⟩
  rw [hSB] at hs1 hs2 hs3
  obtain ⟨SB, sb⟩ := SB
  simp only at hs1 hs2 hs3
  subst hs1
  have hs4 : SB.length ≤ 1000 := by simp at hs3; omega
  have HZ := Lib.hid (And.intro hz16 (And.intro hz12 (And.intro hSB (And.intro hs2 hs4))))
  clear hlt hT hc hK hO6 hz16 hz12 hk16 hl12 hSB hs2 hs3 hs4
  go_upto_region 14 with fail
  go_cut [10, 11] from 52 to 60 (fun v10 v11 wx => ∃ (A : Option Addr) (n c : Nat), v10 = .slice A n c ∧ v11 = .bool true ∧ Own wx 0 (.slice A n c) SB ∧ Old W wx)
  case first =>
   refine region_old (by kernel_rfl) (fun wd hHeld hSz => ?_)
   have HSz := Lib.hid hSz
   clear hSz
   have hz : Z3 W wd none none none false := Z3.start hHeld
   (refine wpAnyH_ready (rs := [0, 1, 2]) (by kernel_rfl) (by simp) ?_; refine (consL rfl (fun K hK => ?_) (consL rfl (fun K hK => ?_) (consL rfl (fun K hK => ?_) AllReadyH.nil))))
   all_goals (first
    | refine step_z16 hz rfl rfl (fun v hz => hK.out _ _ hz.old (fun hHeld => ?_))
    | refine step_z12 hz rfl rfl (fun v hz => hK.out _ _ hz.old (fun hHeld => ?_))
    | refine step_zm hz rfl rfl (fun v hz => hK.out _ _ hz.old (fun hHeld => ?_))
    | refine step_zk hz 55 rfl rfl rfl (fun v hz => hK.out _ _ hz.old (fun hHeld => ?_)))
   all_goals (clear hK K; try simp only [Act.put, sA, sB, sC])
   all_goals (first | (have hg : Z3 _ _ (some _) none none false := hz; clear hg; refine wpAnyH_ready (rs := [1, 2]) (by kernel_rfl) (by simp) ?_; refine (consL rfl (fun K hK => ?_) (consL rfl (fun K hK => ?_) AllReadyH.nil))) | (have hg : Z3 _ _ none (some _) none false := hz; clear hg; refine wpAnyH_ready (rs := [0, 2]) (by kernel_rfl) (by simp) ?_; refine (consL rfl (fun K hK => ?_) (consL rfl (fun K hK => ?_) AllReadyH.nil))) | (have hg : Z3 _ _ none none (some _) false := hz; clear hg; refine wpAnyH_ready (rs := [0, 1, 3]) (by kernel_rfl) (by simp) ?_; refine (consL rfl (fun K hK => ?_) (consL rfl (fun K hK => ?_) (consL rfl (fun K hK => ?_) AllReadyH.nil)))))
   all_goals (first
    | refine step_z16 hz rfl rfl (fun v hz => hK.out _ _ hz.old (fun hHeld => ?_))
    | refine step_z12 hz rfl rfl (fun v hz => hK.out _ _ hz.old (fun hHeld => ?_))
    | refine step_zm hz rfl rfl (fun v hz => hK.out _ _ hz.old (fun hHeld => ?_))
    | refine step_zk hz 55 rfl rfl rfl (fun v hz => hK.out _ _ hz.old (fun hHeld => ?_)))
   all_goals (clear hK K; try simp only [Act.put, sA, sB, sC])
   all_goals (first | (have hg : Z3 _ _ (some _) (some _) none false := hz; clear hg; refine wpAnyH_ready (rs := [2]) (by kernel_rfl) (by simp) ?_; refine (consL rfl (fun K hK => ?_) AllReadyH.nil)) | (have hg : Z3 _ _ (some _) none (some _) false := hz; clear hg; refine wpAnyH_ready (rs := [1, 3]) (by kernel_rfl) (by simp) ?_; refine (consL rfl (fun K hK => ?_) (consL rfl (fun K hK => ?_) AllReadyH.nil))) | (have hg : Z3 _ _ none (some _) (some _) false := hz; clear hg; refine wpAnyH_ready (rs := [0, 3]) (by kernel_rfl) (by simp) ?_; refine (consL rfl (fun K hK => ?_) (consL rfl (fun K hK => ?_) AllReadyH.nil))) | (have hg : Z3 _ _ none none (some _) true := hz; clear hg; refine wpAnyH_ready (rs := [0, 1]) (by kernel_rfl) (by simp) ?_; refine (consL rfl (fun K hK => ?_) (consL rfl (fun K hK => ?_) AllReadyH.nil))))
   all_goals (first
    | refine step_z16 hz rfl rfl (fun v hz => hK.out _ _ hz.old (fun hHeld => ?_))
    | refine step_z12 hz rfl rfl (fun v hz => hK.out _ _ hz.old (fun hHeld => ?_))
    | refine step_zm hz rfl rfl (fun v hz => hK.out _ _ hz.old (fun hHeld => ?_))
    | refine step_zk hz 55 rfl rfl rfl (fun v hz => hK.out _ _ hz.old (fun hHeld => ?_)))
   all_goals (clear hK K; try simp only [Act.put, sA, sB, sC])
   all_goals (first | (have hg : Z3 _ _ (some _) (some _) (some _) false := hz; clear hg; refine wpAnyH_ready (rs := [3]) (by kernel_rfl) (by simp) ?_; refine (consL rfl (fun K hK => ?_) AllReadyH.nil)) | (have hg : Z3 _ _ (some _) none (some _) true := hz; clear hg; refine wpAnyH_ready (rs := [1]) (by kernel_rfl) (by simp) ?_; refine (consL rfl (fun K hK => ?_) AllReadyH.nil)) | (have hg : Z3 _ _ none (some _) (some _) true := hz; clear hg; refine wpAnyH_ready (rs := [0]) (by kernel_rfl) (by simp) ?_; refine (consL rfl (fun K hK => ?_) AllReadyH.nil)))
   all_goals (first
    | refine step_z16 hz rfl rfl (fun v hz => hK.out _ _ hz.old (fun hHeld => ?_))
    | refine step_z12 hz rfl rfl (fun v hz => hK.out _ _ hz.old (fun hHeld => ?_))
    | refine step_zm hz rfl rfl (fun v hz => hK.out _ _ hz.old (fun hHeld => ?_))
    | refine step_zk hz 55 rfl rfl rfl (fun v hz => hK.out _ _ hz.old (fun hHeld => ?_)))
   all_goals (clear hK K; try simp only [Act.put, sA, sB, sC])
   all_goals
    have r0 := hz.z0 _ rfl
    have r1 := hz.z1 _ rfl
    have r2 : Rd _ _ 1 1 [109] := (hz.z2 _ rfl).2.2
    rw [HZ.out.1] at r0
    rw [HZ.out.2.1] at r1
    refine rdL 4 (fun K hK => ?_)
    go_simp
    refine (seal_any _ _ _ 16 16 12 12 1 1 Z16 Z12 [109] _ r0 r1 r2 (by omega) (by omega)).mono ?_
    rintro e vS ⟨A9, n9, c9, rfl, hO9, hB9⟩
    rw [HZ.out.2.2.1] at hO9
    simp only [HZ.out.2.2.1]
    refine hK.out _ _ (Old.trans hHeld hB9) (fun hHeld => ?_)
    clear hK K r0 r1 r2
    have HO := Lib.hid hO9
    clear hO9 hz
    try simp only [Act.put, sA, sB, sC]
    refine tkS 5 hHeld ?_
    refine tkS 6 hHeld ?_
    refine tkS 7 hHeld ?_
    refine tkS 8 hHeld ?_
    refine tkS 9 hHeld ?_
    refine wpAnyH_done (by kernel_rfl) ?_ _
    refine NoPanic.normal ?_
    try simp only [Exit.then]
    try go_at_K
    go_wp2_with fail
    go_meet
    case rel => exact ⟨A9, n9, c9, rfl, rfl, HO.out.mono (Nat.zero_le _), hHeld⟩
  case rest =>
   obtain ⟨A9, n9, c9, rfl, rfl, hO9, hB9⟩ := hcut
   have hn9 : n9 ≤ 1000 := by have h1 := hO9.len; have h2 := HZ.out.2.2.2.2; omega
   have hmk := Tryz.prog_make 16 (by omega) wc
   obtain ⟨w10, hw10⟩ : ∃ x, wc.alloc (.cells (madeCells #[.int .u8 0] 16) 5) = x := ⟨_, rfl⟩
   have r0 : Rd w10 (some ⟨wc.heap.size, 0, none⟩) 16 16 Z16 := by rw [← hw10, ← HZ.out.1]; exact (Own.made wc 16 (by unfold maxLen; omega)).rd
   have hO10 : Old wc w10 := by rw [← hw10]; exact (Old.refl _).alloc _
   rw [hw10, show ((16 : Nat) : Int) = 16 from rfl] at hmk
   have hW10 : Old W w10 := Old.trans hB9 hO10
   have hun := unseal_any (some ⟨wc.heap.size, 0, none⟩) A9 16 16 n9 c9 Z16 SB w10 r0 (hO9.rd.below hO10) (by omega)
   rw [HZ.out.2.2.2.1] at hun
   have HT := Lib.hid hW10
   clear r0 hO10 hW10 hO9 hB9 hw10
   go_upto_region 16 with (go_at_call 19; refine hun.mono ?_; rintro e w11 ⟨A11, n11, c11, rfl, hO11, hB11⟩; have H11 := Lib.hid (And.intro hO11 (Old.trans HT.out hB11)); clear hO11 hB11)
   clear hmk hun
   have hW11 : Old w6 w11 := Old.trans HD.out.2.1 H11.out.2
   have s1 := (H6.out.1.rd.below hW11).str
   have c0 := (HD.out.2.2.1.below H11.out.2).cell 0
   simp only [List.getElem?_toArray, List.getElem?_cons_zero] at c0
   have hS11 := H6.out.2.1.below hW11
   have hld := Load_any x b5 _ _ _ _ w11 hS11.blk hS11.map (by show 3 + 8 + 0 ≤ _; omega)
   rw [show sload [(7, [97, 98, 99])] = 11 from rfl] at hld
   have hrm : ∀ w12, Old w11 w12 → Calls Tryz.prog 23 #[.pointer (some ⟨x, 0, none⟩)] w12 (fun e w' => e = .returned (.int .i64 ((64 * 80 : Nat) : Int)) ∧ w12 = w') := fun w12 ho => room_any x v d L b5 _ 80 _ _ _ w12 (hS11.below ho)
   have HF := Lib.hid (And.intro hW11 (Old.trans H6.out.2.2 hW11))
   clear hW11 hS11
   go_wp2_with (first
    | (go_at_call 16; refine hld.mono ?_; rintro e w12 ⟨rfl, hO12⟩; have s2 := (H11.out.1.rd.below hO12).str; have H12 := Lib.hid hO12; clear hO12)
    | (go_at_call 23; refine (hrm _ H12.out).mono ?_; rintro e w13 ⟨rfl, rfl⟩))
   have hO12 : Old W w12 := Old.trans H11.out.2 H12.out
   refine ret_mark rfl (D := kx + 1) ((hO12.block _ (by have := HD.out.1; omega)).trans HD.out.2.2.2) (fun W' => results_tmp rfl _ _ _) ⟨rfl, ?_⟩
   refine below_turn (Old.trans HF.out.2 H12.out) ((Turn.refl [kx + 1] _).putObj (.inl (by simp)) _) (by intro t h; simp at h; have := HKW.out.1; omega) (Old.trans HF.out.2 H12.out).size
end Go.Proofs.YtgjnmpjimhbfgaaGreatDoor
namespace Go.Proofs.YtgjnmpjimhbfgaaGreatDoor
set_option maxRecDepth 100000
open Go.RowKit
theorem parts_two {w : World} {x m1 c1 m2 c2 : Nat} {A B : Option Addr} {l1 l2 : List UInt8} (h : Blk w x 32 #[.slice A m1 c1, .slice B m2 c2]) (h1 : Rd w A m1 c1 l1) (h2 : Rd w B m2 c2 l2) : PartsAt w (some ⟨x, 0, none⟩) 2 2 [l1, l2] := by
 refine ⟨rfl, Nat.le_refl _, by unfold maxLen; omega, fun _ => ⟨x, 0, rfl, h.lt, fun i l hl => ?_⟩⟩
 match i, hl with
 | 0, hl => cases hl; exact ⟨A, m1, c1, by have := h.cell 0; simpa using this, h1⟩
 | 1, hl => cases hl; exact ⟨B, m2, c2, by have := h.cell 1; simpa using this, h2⟩
theorem seal_no (k iv b : List UInt8) (h : ¬ (iv.length = 12 ∧ keyOk k)) : sealF k iv b = ([], false) := by
 unfold sealF
 by_cases h1 : iv.length = 12
 ·rw [if_pos h1]
  have hk : ¬ keyOk k := fun hk => h ⟨h1, hk⟩
  have : allF 5 true k (12 :: iv) b = ([], 98) := by
   unfold allF
   rw [if_neg (by decide), if_pos hk]
  rw [this]
  rfl
 ·rw [if_neg h1]
theorem unseal_no (k s : List UInt8) (hk : ¬ keyOk k) : (unsealF k s).2 = false := by
 unfold unsealF
 split
 ·rfl
 ·have : ∀ p b, allF 5 false k p b = ([], 98) := fun p b => by
   unfold allF
   rw [if_neg (by decide), if_pos hk]
  rw [this]
  rfl
theorem seal_yes (k iv b : List UInt8) (hi : iv.length = 12) (hk : keyOk k) : gcmOk (12 :: iv) ∧ sealF k iv b = (iv ++ (gcmO (encL (rks k) ((rks k).length / 16)) (12 :: iv) b ++ gcmT (encL (rks k) ((rks k).length / 16)) (12 :: iv) (gcmO (encL (rks k) ((rks k).length / 16)) (12 :: iv) b)), true) := by
 have hp : gcmOk (12 :: iv) := by
  unfold gcmOk
  simp
  omega
 refine ⟨hp, ?_⟩
 have h2 := (sealF_ok k iv b hk hi).1
 have h1 := allF_ok5 k (12 :: iv) b hk hp
 unfold sealF at h2 ⊢
 rw [if_pos hi] at h2 ⊢
 split at h2
 ·rename_i hz
  rw [if_pos hz, h1]
 ·cases h2
theorem unseal_yes (k s : List UInt8) (hs : 12 ≤ s.length) (hk : keyOk k) (hp : gcmOk (12 :: s.take 12)) : unsealF k s = ((openF (encL (rks k) ((rks k).length / 16)) (12 :: s.take 12) (s.drop 12)).1, (openF (encL (rks k) ((rks k).length / 16)) (12 :: s.take 12) (s.drop 12)).2 == 0) := by
 unfold unsealF
 rw [if_neg (by omega), allF_open k _ _ hk hp]
theorem gcm12 (l : List UInt8) (h : l.length = 12) : gcmOk (12 :: l) := by
 unfold gcmOk
 simp
 omega
set_option maxHeartbeats 16000000 in
theorem storeSeal_any (A P C : Option Addr) (ma ca mi ci mb cb : Nat) (k iv b : List UInt8) (kk : Int) (x : UInt8) (w : World) (hK : KAt w) (hk : Rd w A ma ca k) (hi : Rd w P mi ci iv) (hb : Rd w C mb cb b) (hkk : -9223372036854775808 ≤ kk) (hkk2 : kk ≤ 9223372036854775807) :
  Calls Tryz.prog 4 #[.slice A ma ca, .slice P mi ci, .slice C mb cb, .int .i64 kk, B x] w fun e w' => e = .returned (.bool true) ∧ Old w w' := by
 have hbeg := stbegun_any w hK
 have hk2 := hk.short (n := 40)
 have hi2 := hi.short (n := 14)
 have hb2 := hb.short (n := 80)
 have HH := Lib.hid (And.intro hbeg (And.intro hk (And.intro hi hb)))
 obtain ⟨n1, hn1⟩ : ∃ m, min ma 40 = m := ⟨_, rfl⟩
 obtain ⟨n2, hn2⟩ : ∃ m, min mi 14 = m := ⟨_, rfl⟩
 obtain ⟨n3, hn3⟩ : ∃ m, min mb 80 = m := ⟨_, rfl⟩
 obtain ⟨v1, hv1⟩ : ∃ l, k.take 40 = l := ⟨_, rfl⟩
 obtain ⟨v2, hv2⟩ : ∃ l, iv.take 14 = l := ⟨_, rfl⟩
 obtain ⟨v3, hv3⟩ : ∃ l, b.take 80 = l := ⟨_, rfl⟩
 rw [hn1, hv1] at hk2
 rw [hn2, hv2] at hi2
 rw [hn3, hv3] at hb2
 have b1 : n1 ≤ 40 := by omega
 have b2 : n2 ≤ 14 := by omega
 have b3 : n3 ≤ 80 := by omega
 have HM := Lib.hid (And.intro hn1 (And.intro hn2 hn3))
 have HK := Lib.hid (And.intro hk2 (And.intro hi2 hb2))
 have HB := Lib.hid (And.intro b1 (And.intro b2 b3))
 clear hbeg hk hi hb hk2 hi2 hb2 hn1 hn2 hn3 hv1 hv2 hv3 b1 b2 b3 hK
 go_enter Tryz.func4, Tryz.ntmps4
 go_wp2_with fail
 refine HH.out.1.mono ?_
 rintro e w1 ⟨rfl, hO1⟩
 have H1 := Lib.hid hO1
 clear hO1
 go_wp2_with fail
 refine (short_any A ma ca 40 k w1 (HH.out.2.1.below H1.out) (by omega)).mono ?_
 rintro e w2 ⟨rfl, rfl⟩
 go_wp2_with fail
 refine (short_any P mi ci 14 iv w1 (HH.out.2.2.1.below H1.out) (by omega)).mono ?_
 rintro e w2 ⟨rfl, rfl⟩
 go_wp2_with fail
 refine (short_any C mb cb 80 b w1 (HH.out.2.2.2.below H1.out) (by omega)).mono ?_
 rintro e w2 ⟨rfl, rfl⟩
 rw [HM.out.1, HM.out.2.1, HM.out.2.2]
 go_wp2_with fail
 have hse := seal_any A P C n1 ca n2 ci n3 cb v1 v2 v3 w1 (HK.out.1.below H1.out) (HK.out.2.1.below H1.out) (HK.out.2.2.below H1.out) (by have := HB.out.2.2; omega) (by have := HB.out.2.1; omega)
 refine hse.mono ?_
 rintro e w3 ⟨A3, m3, c3, rfl, hO3, hB3⟩
 have hl1 := HK.out.1.1
 have hl2 := HK.out.2.1.1
 have hl3 := HK.out.2.2.1
 by_cases hf : n2 = 12 ∧ keyOk v1
 case neg =>
  have hsn := seal_no v1 v2 v3 (fun h => hf ⟨by rw [hl2]; exact h.1, h.2⟩)
  rw [hsn] at hO3
  simp only [hsn]
  have hm3 : m3 = 0 := hO3.len
  have hm3b : ((m3 : Int) == 0) = true := by rw [hm3]; rfl
  have hun := unseal_any A C n1 ca n3 cb v1 v3 w3 ((HK.out.1.below H1.out).below hB3) ((HK.out.2.2.below H1.out).below hB3) (by have := HB.out.2.2; omega)
  have huo := unseal_no v1 v3
  have H3 := Lib.hid (And.intro (Old.trans H1.out hB3) (And.intro hun (And.intro huo (And.intro hf hl1))))
  clear hse hO3 hsn hl1 hl2 hl3 hun huo hf
  go_upto_region 4 with fail
  go_cut [14] (fun v wx => v = .bool false ∧ w3 = wx)
  case first =>
   have hf := H3.out.2.2.2.1
   have hl1 := H3.out.2.2.2.2
   by_cases q0 : n2 = 12
   ·have q1 : ((n2 : Int) == 12) = true := by simpa using (show (n2 : Int) = 12 by omega)
    have hk0 : ¬ keyOk v1 := fun h => hf ⟨q0, h⟩
    have q2 : ((n1 : Int) == 16) = false := by have : ¬ n1 = 16 := fun h => hk0 (.inl (hl1 ▸ h)); simp; omega
    have q3 : ((n1 : Int) == 24) = false := by have : ¬ n1 = 24 := fun h => hk0 (.inr (.inl (hl1 ▸ h))); simp; omega
    have q4 : ((n1 : Int) == 32) = false := by have : ¬ n1 = 32 := fun h => hk0 (.inr (.inr (hl1 ▸ h))); simp; omega
    clear hf hl1 q0 hk0
    go_wp2_with fail
    go_meet
    case rel => exact ⟨rfl, rfl⟩
   ·have q1 : ((n2 : Int) == 12) = false := by simp; omega
    clear hf hl1 q0
    go_wp2_with fail
    go_meet
    case rel => exact ⟨rfl, rfl⟩
  case rest =>
   obtain ⟨rfl, rfl⟩ := hcut
   try go_at_K
   go_wp2_with fail
   refine H3.out.2.1.mono ?_
   rintro e w4 ⟨A4, m4, c4, rfl, hO4, hB4⟩
   obtain ⟨U, hU⟩ : ∃ U, unsealF v1 v3 = U := ⟨_, rfl⟩
   have huo := H3.out.2.2.1
   rw [hU] at huo
   simp only [hU]
   obtain ⟨Ul, Ub⟩ := U
   simp only at huo ⊢
   have H4 := Lib.hid (Old.trans H3.out.1 hB4)
   clear hO4 hB4 hU
   cases Ub with
   | false =>
    clear huo
    go_wp2_with fail
    go_ret
    exact ⟨rfl, H4.out⟩
   | true =>
    have hko : keyOk v1 := by
     by_cases h : keyOk v1
     ·exact h
     ·have := huo h; cases this
    have hl1 := H3.out.2.2.2.2
    clear huo
    by_cases q1 : n1 = 16
    ·have q2 : ((n1 : Int) == 16) = true := by simp; omega
     clear hko hl1 q1
     go_wp2_with fail
     go_ret
     exact ⟨rfl, H4.out⟩
    have q2 : ((n1 : Int) == 16) = false := by simp; omega
    by_cases q3 : n1 = 24
    ·have q4 : ((n1 : Int) == 24) = true := by simp; omega
     clear hko hl1 q1 q3
     go_wp2_with fail
     go_ret
     exact ⟨rfl, H4.out⟩
    have q4 : ((n1 : Int) == 24) = false := by simp; omega
    have q5 : ((n1 : Int) == 32) = true := by
     rcases hko with h | h | h
     ·exact absurd (hl1.trans h) q1
     ·exact absurd (hl1.trans h) q3
     ·have := hl1.trans h; simp; omega
    clear hko hl1 q1 q3
    go_wp2_with fail
    go_ret
    exact ⟨rfl, H4.out⟩
 case pos =>
  obtain ⟨h12, hko⟩ := hf
  have hv12 : v2.length = 12 := hl2.symm.trans h12
  obtain ⟨hp, hsy⟩ := seal_yes v1 v2 v3 hv12 hko
  have hso := (sealF_ok v1 v2 v3 hko hv12).2
  have hsl := sealF_len v1 v2 v3
  obtain ⟨E, hE⟩ : ∃ E, encL (rks v1) ((rks v1).length / 16) = E := ⟨_, rfl⟩
  rw [hE] at hsy
  obtain ⟨Y, hY⟩ : ∃ Y, gcmO E (12 :: v2) v3 ++ gcmT E (12 :: v2) (gcmO E (12 :: v2) v3) = Y := ⟨_, rfl⟩
  rw [hY] at hsy
  rw [hsy] at hO3 hso hsl
  simp only [hsy]
  simp only at hO3 hso hsl
  have hYl : Y.length ≤ 200 := by rw [List.length_append] at hsl; have := HB.out.2.2; omega
  have hm3 := hO3.len
  rw [List.length_append, hv12] at hm3
  have hop : ∀ (l : List UInt8), l.length = 12 → gcmOk (12 :: l) := gcm12
  have HE := Lib.hid (And.intro hE (And.intro hY (And.intro hp (And.intro hko (And.intro hso (And.intro hYl hm3))))))
  have H3 := Lib.hid (And.intro hO3 (And.intro (Old.trans H1.out hB3) (And.intro hv12 hl1)))
  subst h12
  clear hse hO3 hB3 hl1 hl2 hl3 hv12 hp hsy hso hsl hE hY hYl hm3 hop
  go_upto_region 4 with fail
  go_cut [14] (fun v wx => v = .bool true ∧ w3 = wx)
  case first =>
   have hl1 := H3.out.2.2.2
   by_cases q1 : n1 = 16
   ·have q2 : ((n1 : Int) == 16) = true := by simp; omega
    clear hko hl1 q1
    go_wp2_with fail
    go_meet
    case rel => exact ⟨rfl, rfl⟩
   have q2 : ((n1 : Int) == 16) = false := by simp; omega
   by_cases q3 : n1 = 24
   ·have q4 : ((n1 : Int) == 24) = true := by simp; omega
    clear hko hl1 q1 q3
    go_wp2_with fail
    go_meet
    case rel => exact ⟨rfl, rfl⟩
   have q4 : ((n1 : Int) == 24) = false := by simp; omega
   have q5 : ((n1 : Int) == 32) = true := by
    rcases hko with h | h | h
    ·exact absurd (hl1.trans h) q1
    ·exact absurd (hl1.trans h) q3
    ·have := hl1.trans h; simp; omega
   clear hko hl1 q1 q3
   go_wp2_with fail
   go_meet
   case rel => exact ⟨rfl, rfl⟩
  case rest =>
   obtain ⟨rfl, rfl⟩ := hcut
   try go_at_K
   clear hko
   obtain ⟨ws, hws⟩ : ∃ ws, w3.alloc (.cells #[.int .u8 12] 5) = ws := ⟨_, rfl⟩
   have hsg : Own ws w3.heap.size (.slice (some ⟨w3.heap.size, 0, none⟩) 1 1) [12] := by
    rw [← hws]
    exact Own.of_cells (l := [12]) (c := 1) (cur := [B 12]) (heap_alloc_new w3 _) (Nat.le_refl _) rfl (by unfold maxLen; omega) (by simp) rfl
   have hBs : Old w3 ws := by rw [← hws]; exact (Old.refl _).alloc _
   have HG := Lib.hid (And.intro hsg hBs)
   clear hsg hBs
   go_upto_region 9 with (at_builtin; refine wp_app2 (.tmp 93) (.tmp 94) w3.heap.size (.slice (some ⟨w3.heap.size, 0, none⟩) 1 1) [12] HG.out.1 HG.out.2.size P 12 ci v2 ((HK.out.2.1.below (Old.trans H3.out.2.1 HG.out.2))) (by have := H3.out.2.2.1; simp; omega) rfl rfl rfl rfl ?_; intro A5 m5 c5 w5 hm5 hG5; have H5 := Lib.hid hG5; clear hG5)
   have hO5 : Own w5 w3.heap.size (.slice A5 m5 c5) (12 :: v2) := H5.out.own
   have hm5b : m5 = 13 := by have h1 := hO5.len; rw [List.length_cons, H3.out.2.2.1] at h1; exact h1
   have hO35 : Old w3 w5 := Below.trans HG.out.2 H5.out.below
   have hO5w : Old w w5 := Old.trans H3.out.2.1 hO35
   have hrs := ralln_seal A A5 C n1 ca m5 c5 n3 cb v1 (12 :: v2) v3 w5 (HK.out.1.below hO5w) hO5.rd (HK.out.2.2.below hO5w) HE.out.2.2.2.1 HE.out.2.2.1 (by omega) (by have := HB.out.2.2; omega)
   rw [HE.out.1, HE.out.2.1] at hrs
   have HO5 := Lib.hid (And.intro hO5w hO35)
   clear hO5 hm5b hm5 hO5w hO35 hws
   go_wp2_with fail
   refine hrs.mono ?_
   rintro e w6 ⟨A6, m6, c6, rfl, hR6, hA6, hB6⟩
   simp only at hR6 ⊢
   have hO6 : Old w w6 := Old.trans HO5.out.1 hB6
   have HT := Lib.hid (And.intro (H3.out.1.below (Old.trans HO5.out.2 hB6)) (And.intro hR6 (And.intro hO6 (HK.out.2.1.below hO6))))
   clear hrs hR6 hA6 hB6 hO6
   go_upto_region 10 with fail
   refine region_old (by kernel_rfl) (fun wd hHeld hSz => ?_)
   have HSz := Lib.hid hSz
   clear hSz
   refine tkS 0 hHeld ?_
   refine tkS 1 hHeld ?_
   refine tkS 2 hHeld ?_
   refine tkS 3 hHeld ?_
   refine tkS 4 hHeld ?_ (hy := by intro wq hSw; have hRun := ((HT.out.1).rd.below hSw).str; clear hSw; go_simp; try with_reducible rfl)
   refine tkS 5 hHeld ?_
   refine tkS 6 hHeld ?_
   refine rdL 7 (fun K hK => ?_)
   go_simp
   refine hK.out _ _ (hHeld.alloc _) (fun hHeld => ?_)
   clear hK K
   try simp only [Act.put, sA, sB, sC]
   refine rdL 8 (fun K hK => ?_)
   go_simp
   have hP : PartsAt (wd.alloc (.cells #[.slice P 12 ci, .slice A6 m6 c6] 32)) (some ⟨wd.heap.size, 0, none⟩) 2 2 [v2, Y] := parts_two (Blk.new wd _ _) (HT.out.2.2.2.below hHeld) (HT.out.2.1.below hHeld)
   refine (join_any (some ⟨wd.heap.size, 0, none⟩) 2 2 [v2, Y] _ hP (by have := HE.out.2.2.2.2.2.1; have := H3.out.2.2.1; simp; omega)).mono ?_
   rintro e w7 ⟨v7, rfl, hO7, hB7⟩
   rw [show [v2, Y].flatten = v2 ++ Y by simp] at hO7
   obtain ⟨A7, c7, rfl, hr7, _⟩ := hO7.shape
   obtain ⟨m7, hm7⟩ : ∃ m, (v2 ++ Y).length = m := ⟨_, rfl⟩
   rw [hm7] at hr7 ⊢
   clear hm7
   have H7 := Lib.hid (And.intro hr7 (Old.trans hHeld hB7))
   clear hO7 hr7 hB7 hP
   refine hK.out _ _ H7.out.2 (fun hHeld => ?_)
   clear hK K
   try simp only [Act.put, sA, sB, sC]
   refine wpAnyH_old (w1 := w7) H7.out.2 (fun hHeld => ?_) (Old.refl _)
   refine tkS 9 hHeld ?_ (hy := by intro wq hSw; have hRun := ((H7.out.1).below hSw).str; clear hSw; go_simp; try with_reducible rfl)
   refine tkS 10 hHeld ?_
   refine tkS 11 hHeld ?_
   have HE6 := Lib.hid H7.out.2
   refine wpAnyH_done (by kernel_rfl) ?_ _
   refine NoPanic.normal ?_
   try simp only [Exit.then]
   try go_at_K
   try simp only [beq_self_eq_true, Bool.not_true]
   have hun := unseal_any A A3 n1 ca m3 c3 v1 (v2 ++ Y) w7 ((HK.out.1.below HT.out.2.2.1).below HE6.out) (HT.out.1.rd.below HE6.out) (by have h1 := HE.out.2.2.2.2.2.1; have h2 := HE.out.2.2.2.2.2.2; omega)
   rw [HE.out.2.2.2.2.1] at hun
   go_wp2_with fail
   refine hun.mono ?_
   rintro e w8 ⟨A8, m8, c8, rfl, hO8, hB8⟩
   simp only at hO8 ⊢
   have hO8w : Old w w8 := Old.trans (Old.trans HT.out.2.2.1 HE6.out) hB8
   have s1 := hO8.rd.str
   have s2 := (HK.out.2.2.below hO8w).str
   have H8 := Lib.hid (And.intro ((HT.out.1.below HE6.out).below hB8) hO8w)
   clear hun hO8 hB8 hO8w
   go_upto_if 131 with fail
   clear s1 s2
   go_cut [3] (fun v wx => ∃ K : Nat, v = .int .i64 (K : Int) ∧ (K : Int) ≤ 9223372036854775807 ∧ w8 = wx)
   case first =>
    by_cases hn : kk < 0
    ·have hnd : decide (kk < 0) = true := decide_eq_true hn
     obtain ⟨k1, hk1⟩ : ∃ k1, kk + 1 = k1 := ⟨_, rfl⟩
     have hk1w : IntKind.i64.wrap k1 = k1 := IntWalk.i64_in _ (by omega)
     obtain ⟨K, hKK⟩ : ∃ K : Nat, -k1 = (K : Int) := ⟨(-k1).toNat, by omega⟩
     have hKw : IntKind.i64.wrap (K : Int) = (K : Int) := IntWalk.i64_in _ (by omega)
     have hKb : (K : Int) ≤ 9223372036854775807 := by omega
     go_wp2_with fail
     go_meet
     case rel => exact ⟨K, rfl, hKb, rfl⟩
    ·have hnd : decide (kk < 0) = false := decide_eq_false hn
     obtain ⟨K, hKK⟩ : ∃ K : Nat, kk = (K : Int) := ⟨kk.toNat, by omega⟩
     have hKb : (K : Int) ≤ 9223372036854775807 := by omega
     subst hKK
     go_wp2_with fail
     go_meet
     case rel => exact ⟨K, rfl, hKb, rfl⟩
   case rest =>
    obtain ⟨K, rfl, hKb, rfl⟩ := hcut
    try go_at_K
    have hm12 : 12 ≤ m3 := by have := HE.out.2.2.2.2.2.2; omega
    have hm3b : m3 ≤ 300 := by have h1 := HE.out.2.2.2.2.2.1; have h2 := HE.out.2.2.2.2.2.2; omega
    obtain ⟨j, hj⟩ : ∃ j, K % m3 = j := ⟨_, rfl⟩
    have hjL : j < m3 := by rw [← hj]; exact Nat.mod_lt _ (by omega)
    have hj2 : Int.tmod (K : Int) (m3 : Int) = (j : Int) := by rw [Int.tmod_eq_emod_of_nonneg (by omega), ← hj]; rfl
    have hjw : IntKind.i64.wrap (j : Int) = (j : Int) := IntWalk.i64_in _ (by omega)
    have hL0 : ((m3 : Int) == 0) = false := by simp; omega
    have hL9 : ¬ (m3 : Int) = 0 := by omega
    have hjd : decide ((j : Int) < (m3 : Int)) = true := decide_eq_true (by omega)
    have hji : (j : Int) < (m3 : Int) := by omega
    obtain ⟨g, cz, he⟩ := H8.out.1.form (fun h => by injection h with _ h2 _; omega)
    injection he with he1 he2 he3
    subst he1 he3
    obtain ⟨z, hz⟩ : ∃ z, (v2 ++ Y)[j]? = some z := ⟨_, List.getElem?_eq_getElem (by rw [← H8.out.1.len]; exact hjL)⟩
    have y0 := H8.out.1.cell j z hz
    have y1 := H8.out.1.frozen j
    have hOs := H8.out.1.set_ j (z ^^^ x) hjL
    have hTs : Turn [g] w8 (w8.setCell ⟨g, j, none⟩ (B (z ^^^ x))) := (Turn.refl _ _).setCell (p := ⟨g, j, none⟩) (.inl (by simp)) _
    have hgw : w1.heap.size ≤ g := H8.out.1.addr_ge _ rfl
    obtain ⟨s9, hs9⟩ : ∃ l, (v2 ++ Y).set j (z ^^^ x) = l := ⟨_, rfl⟩
    rw [hs9] at hOs
    obtain ⟨wS, hwS⟩ : ∃ x', w8.setCell ⟨g, j, none⟩ (B (z ^^^ x)) = x' := ⟨_, rfl⟩
    rw [hwS] at hOs hTs
    have hOw : Old w wS := below_turn H8.out.2 hTs (by intro u hu; simp at hu; subst hu; exact Nat.le_trans H1.out.size hgw) H8.out.2.size
    have hsl : s9.length = m3 := hOs.len.symm
    obtain ⟨hS1, hR1⟩ := hOs.rd.st_to (k := 12) hm12
    rw [show ((12 : Nat) : Int) = 12 from rfl] at hS1
    obtain ⟨A', n', c', hn', hS2, hR2, _⟩ := hOs.rd.cut_ex2 (k := 12) hm12
    rw [show ((12 : Nat) : Int) = 12 from rfl] at hS2
    have ht12 : (s9.take 12).length = 12 := by rw [List.length_take]; omega
    have hn'b : n' ≤ 300 := by omega
    have hp9 := gcm12 (s9.take 12) ht12
    have hus := unseal_yes v1 s9 (by omega) HE.out.2.2.2.1 hp9
    obtain ⟨V2, hV2⟩ : ∃ V, openF (encL (rks v1) ((rks v1).length / 16)) (12 :: s9.take 12) (s9.drop 12) = V := ⟨_, rfl⟩
    rw [hV2] at hus
    obtain ⟨W7, v7⟩ := V2
    have HS := Lib.hid (And.intro hOs.rd (And.intro hR1 (And.intro hR2 (And.intro hOw (And.intro hV2 (And.intro hus (And.intro hp9 ht12)))))))
    clear hz hOs hTs hgw hs9 hOw hsl hR1 hR2 hn' hV2 hus hp9 ht12 hj he2 hkk hkk2 hKb
    go_upto_region 18 with fail
    clear y0 y1 hwS
    refine region_old (by kernel_rfl) (fun wd hHeld hSz => ?_)
    have HSz := Lib.hid hSz
    clear hSz
    refine tkS 0 hHeld ?_
    refine tkS 2 hHeld ?_
    refine tkS 3 hHeld ?_ (hy := by intro wq hSw; have hRun := hS1 wq; clear hSw; go_simp; try with_reducible rfl)
    refine tkS 5 hHeld ?_
    refine tkS 6 hHeld ?_ (hy := by intro wq hSw; have hRun := hS2 wq; clear hSw; go_simp; try with_reducible rfl)
    have hWd := Lib.hid hHeld
    refine rdL 1 (fun K hK => ?_)
    go_simp
    refine hK.out _ _ (hHeld.alloc _) (fun hHeld => ?_)
    clear hK K
    try simp only [Act.put, sA, sB, sC]
    obtain ⟨ws2, hws2⟩ : ∃ ws2, wd.alloc (.cells #[.int .u8 12] 5) = ws2 := ⟨_, rfl⟩
    have hsg2 : Own ws2 wd.heap.size (.slice (some ⟨wd.heap.size, 0, none⟩) 1 1) [12] := by rw [← hws2]; exact Own.of_cells (l := [12]) (c := 1) (cur := [B 12]) (heap_alloc_new wd _) (Nat.le_refl _) rfl (by unfold maxLen; omega) (by simp) rfl
    rw [hws2] at hHeld ⊢
    have hsz2 : wd.heap.size ≤ ws2.heap.size := by rw [← hws2]; simp
    have hd2 : Old wd ws2 := by rw [← hws2]; exact (Old.refl _).alloc _
    clear hws2
    refine rdL 4 (fun K hK => ?_)
    refine step_app rfl (.tmp 147) (.tmp 149) rfl wd.heap.size (.slice (some ⟨wd.heap.size, 0, none⟩) 1 1) [12] rfl hsg2 (some ⟨g, 0, none⟩) 12 c3 (s9.take 12) rfl (HS.out.2.1.below hHeld) (by have := HS.out.2.2.2.2.2.2.2; simp; omega) hsz2 (fun v9 w9 ho9 hg9 hn9 ha9 => ?_)
    obtain ⟨A9, m9, c9, rfl, _, hG9⟩ := grew_of hsg2 hsz2 ho9 hg9 hn9 ha9
    have hm9 : m9 ≤ 40 := by have h1 := hG9.own.len; have h2 := HS.out.2.2.2.2.2.2.2; simp at h1; omega
    have hOd9 : Old wd w9 := Below.trans hd2 hG9.below
    have H9 := Lib.hid (And.intro hG9.own (Old.trans hWd.out hOd9))
    clear ho9 hg9 hn9 ha9 hG9 hsg2 hsz2 hd2 hOd9
    refine hK.out _ _ H9.out.2 (fun hHeld => ?_)
    clear hK K
    try simp only [Act.put, sA, sB, sC]
    refine rdL 7 (fun K hK => ?_)
    go_simp
    refine (rall_open A A9 A' n1 ca m9 c9 n' c' v1 (12 :: s9.take 12) (s9.drop 12) w9 ((HK.out.1.below HS.out.2.2.2.1).below H9.out.2) H9.out.1.rd (HS.out.2.2.1.below H9.out.2) HE.out.2.2.2.1 HS.out.2.2.2.2.2.2.1 (by omega) (by omega)).mono ?_
    rintro e wR ⟨A10, m10, c10, rfl, hR10, hB10⟩
    rw [HS.out.2.2.2.2.1] at hR10
    simp only [HS.out.2.2.2.2.1]
    have HR := Lib.hid (And.intro hR10 (Old.trans H9.out.2 hB10))
    clear hR10 hB10
    refine hK.out _ _ HR.out.2 (fun hHeld => ?_)
    clear hK K
    try simp only [Act.put, sA, sB, sC]
    refine tkS 8 hHeld ?_
    refine tkS 9 hHeld ?_
    refine tkS 10 hHeld ?_
    refine tkS 11 hHeld ?_
    refine tkS 12 hHeld ?_
    refine wpAnyH_done (by kernel_rfl) ?_ _
    refine NoPanic.normal ?_
    try simp only [Exit.then]
    try go_at_K
    have hun := unseal_any A (some ⟨g, 0, none⟩) n1 ca m3 c3 v1 s9 wR ((HK.out.1.below HS.out.2.2.2.1).below HR.out.2) (HS.out.1.below HR.out.2) (by omega)
    rw [HS.out.2.2.2.2.2.1] at hun
    have hr7 := HR.out.1
    have HH7 := Lib.hid (And.intro hr7 (Old.trans HS.out.2.2.2.1 HR.out.2))
    clear hr7 HR
    go_wp2_with fail
    refine hun.mono ?_
    rintro e w12 ⟨A12, m12, c12, rfl, hO12, hB12⟩
    simp only at hO12 ⊢
    have s1 := hO12.rd.str
    have s2 := (HH7.out.1.below hB12).str
    have H12 := Lib.hid (Old.trans HH7.out.2 hB12)
    clear hun hO12 hB12
    by_cases hv : v7 = 0
    ·subst hv
     go_wp2_with fail
     go_ret
     exact ⟨rfl, H12.out⟩
    ·have hvb : (v7 == 0) = false := by simpa using hv
     rw [hvb]
     clear hv
     go_wp2_with fail
     go_ret
     exact ⟨rfl, H12.out⟩
end Go.Proofs.YtgjnmpjimhbfgaaGreatDoor
