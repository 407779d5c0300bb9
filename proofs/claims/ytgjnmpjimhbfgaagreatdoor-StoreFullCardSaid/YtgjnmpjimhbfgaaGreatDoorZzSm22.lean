/-
  objstore: Seal and Unseal.
  objstore: a commit on a device that lives; the laws' begun.
  'baileylaw15.StoreFull' returns true: a store takes just as much as its room, and not one byte more. The one condition is that the table of SHA-512 lies where it is laid.
-/
import Derived.Test.YtgjnmpjimhbfgaaGreatDoorZzSm19
import Derived.Test.YtgjnmpjimhbfgaaGreatDoorZzMb1
import Derived.Lib.SlBytesConst
namespace Go.Proofs.YtgjnmpjimhbfgaaGreatDoor
set_option maxRecDepth 100000
open Go.RowKit
def sealF (k iv b : List UInt8) : List UInt8 × Bool := if iv.length = 12 then (if (allF 5 true k (12 :: iv) b).2 = 0 then (iv ++ (allF 5 true k (12 :: iv) b).1, true) else ([], false)) else ([], false)
def unsealF (k s : List UInt8) : List UInt8 × Bool := if s.length < 12 then ([], false) else ((allF 5 false k (12 :: s.take 12) (s.drop 12)).1, (allF 5 false k (12 :: s.take 12) (s.drop 12)).2 == 0)
def SealRes (w : World) (r : List UInt8 × Bool) (e : Ending) (w' : World) : Prop := ∃ A n c, e = .returned (.tuple #[.slice A n c, .bool r.2]) ∧ Own w' w.heap.size (.slice A n c) r.1 ∧ Old w w'
theorem seal_any (A C B : Option Addr) (mk ck m cm n cn : Nat) (k iv b : List UInt8) (w : World) (hk : Rd w A mk ck k) (hp : Rd w C m cm iv) (hb : Rd w B n cn b) (hn : n ≤ 90000) (hm : m ≤ 1000) :
  Calls Tryz.prog 18 #[.slice A mk ck, .slice C m cm, .slice B n cn] w (SealRes w (sealF k iv b)) := by
 have hml := hp.1
 obtain ⟨TG, hTG⟩ : ∃ TG : Ending → World → Prop, SealRes w (sealF k iv b) = TG := ⟨_, rfl⟩
 by_cases h12 : m = 12
 ·subst h12
  have hpa := stparam_any C 12 cm iv w hp (by omega)
  have hal := (all_back5 k (12 :: iv) b).2
  obtain ⟨V, hV⟩ : ∃ V, allF 5 true k (12 :: iv) b = V := ⟨_, rfl⟩
  obtain ⟨X, v⟩ := V
  rw [hV] at hal
  have hS : sealF k iv b = if v = 0 then (iv ++ X, true) else ([], false) := by
   unfold sealF
   rw [if_pos hml.symm, hV]
  rw [hS] at hTG
  have hbl := hb.1
  have HH := Lib.hid (And.intro hk (And.intro hp (And.intro hb (And.intro hV (And.intro hml (And.intro hal hbl))))))
  clear hk hp hb hV hS hal hml hbl
  rw [show SealRes w (sealF k iv b) = TG by rw [← hTG, sealF, if_pos HH.out.2.2.2.2.1.symm, HH.out.2.2.2.1]]
  go_enter Tryz.func18, Tryz.ntmps18
  go_wp2_with fail
  refine hpa.mono ?_
  rintro e w1 ⟨A1, n1, c1, rfl, hO1, hb1⟩
  have hn1 : n1 ≤ 1000 := by have h1 := hO1.len; have h2 := HH.out.2.2.2.2.1; rw [List.length_cons] at h1; omega
  have H1 := Lib.hid (And.intro hO1 hb1)
  clear hO1 hb1 hpa
  go_wp2_with fail
  refine (modesAll_any 5 true A A1 B mk ck n1 c1 n cn k (12 :: iv) b w1 (HH.out.1.below H1.out.2) H1.out.1.rd (HH.out.2.2.1.below H1.out.2) (by omega) (by omega)).mono ?_
  rintro e w2 ⟨A2, n2, c2, rfl, hO2, hB2⟩
  rw [HH.out.2.2.2.1] at hO2
  simp only [HH.out.2.2.2.1]
  have hn2 : n2 ≤ 100000 := by have h1 := hO2.len; have h2 := HH.out.2.2.2.2.2; simp only at h1 h2; omega
  have H2 := Lib.hid (And.intro hO2 (Old.trans H1.out.2 hB2))
  clear hO2 hB2
  by_cases hv : v = 0
  ·subst hv
   rw [if_pos rfl] at hTG
   go_wp2_with fail
   refine (rclone_own C 12 cm iv w2 (HH.out.2.1.below H2.out.2) (by omega)).mono ?_
   rintro e w3 ⟨A3, c3, rfl, hO3, hB3⟩
   have H3 := Lib.hid (And.intro hO3 (And.intro hB3 (Old.trans H2.out.2 hB3)))
   clear hO3 hB3
   obtain ⟨n3, hn3⟩ : ∃ n3, iv.length = n3 := ⟨_, rfl⟩
   rw [hn3] at H3
   rw [hn3]
   have hn3b : n3 ≤ 12 := by have := HH.out.2.2.2.2.1; omega
   have Hn3 := Lib.hid hn3
   clear hn3
   go_wp2_with (at_builtin; refine wp_app2 (.tmp 24) (.tmp 25) w2.heap.size (.slice A3 n3 c3) iv H3.out.1 H3.out.2.1.size A2 n2 c2 X (H2.out.1.rd.below H3.out.2.1) (by have h1 := Hn3.out; have h2 : X.length ≤ b.length + 32 := HH.out.2.2.2.2.2.1; have h3 := HH.out.2.2.2.2.2.2; omega) rfl rfl rfl rfl ?_; intro A9 n9 c9 w9 hn9 hG9; have H9 := Lib.hid hG9; clear hG9 hn9)
   rw [← hTG]
   exact ⟨A9, n9, c9, rfl, H9.out.own.mono H2.out.2.size, Old.trans H2.out.2 (Below.trans H3.out.2.1 H9.out.below)⟩
  ·have hvb : (v != 0) = true := by simpa using hv
   rw [if_neg hv] at hTG
   clear hv
   go_wp2_with fail
   rw [← hTG]
   exact ⟨none, 0, 0, rfl, Own.nil _ _, H2.out.2⟩
 ·have t1 : ((m : Int) != 12) = true := by simp; omega
  have t2 : ¬ (m : Int) = 12 := by omega
  have hS : sealF k iv b = ([], false) := by
   unfold sealF
   rw [if_neg (by omega)]
  rw [hTG]
  rw [hS] at hTG
  clear hk hp hb hml h12 hS
  go_enter Tryz.func18, Tryz.ntmps18
  go_wp2_with fail
  rw [← hTG]
  exact ⟨none, 0, 0, rfl, Own.nil _ _, Old.refl _⟩
theorem unseal_any (A C : Option Addr) (mk ck m cm : Nat) (k s : List UInt8) (w : World) (hk : Rd w A mk ck k) (hp : Rd w C m cm s) (hm : m ≤ 90000) :
  Calls Tryz.prog 19 #[.slice A mk ck, .slice C m cm] w (SealRes w (unsealF k s)) := by
 have hml := hp.1
 obtain ⟨TG, hTG⟩ : ∃ TG : Ending → World → Prop, SealRes w (unsealF k s) = TG := ⟨_, rfl⟩
 by_cases h12 : 12 ≤ m
 ·have t1 : ¬ (m : Int) < 12 := by omega
  have t2 : decide ((m : Int) < 12) = false := decide_eq_false t1
  obtain ⟨hS1, hR1⟩ := hp.st_to (k := 12) h12
  rw [show ((12 : Nat) : Int) = 12 from rfl] at hS1
  obtain ⟨A', n', c', hn', hS2, hR2, _⟩ := hp.cut_ex2 (k := 12) h12
  rw [show ((12 : Nat) : Int) = 12 from rfl] at hS2
  have hpa : ∀ W, Old w W → Calls Tryz.prog 45 #[.slice C 12 cm] W (fun e w' => ∃ A' n' c', e = .returned (.slice A' n' c') ∧ Own w' W.heap.size (.slice A' n' c') (12 :: s.take 12) ∧ Old W w') := fun W ho => stparam_any C 12 cm (s.take 12) W (hR1.below ho) (by omega)
  obtain ⟨V, hV⟩ : ∃ V, allF 5 false k (12 :: s.take 12) (s.drop 12) = V := ⟨_, rfl⟩
  obtain ⟨X, v⟩ := V
  have hS : unsealF k s = (X, v == 0) := by
   unfold unsealF
   rw [if_neg (by omega), hV]
  have HH := Lib.hid (And.intro hk (And.intro hp (And.intro hR2 (And.intro hV hS))))
  clear hk hp hR1 hR2 hV hS hml h12
  rw [hTG]
  have hnb : n' ≤ 90000 := by omega
  clear hn' hm
  go_enter Tryz.func19, Tryz.ntmps19
  go_wp2_with fail
  refine region_old (by kernel_rfl) (fun wd hHeld hSz => ?_)
  have HSz := Lib.hid hSz
  clear hSz
  refine tkL 0 (v := ?_) hHeld ?_ ?_
  rotate_left
  focus (intro wq hSw; clear hSw; go_simp; try with_reducible rfl)
  try simp only [Act.put, sA, sB, sC]
  refine tkL 1 (v := ?_) hHeld ?_ ?_
  rotate_left
  focus (intro wq hSw; clear hSw; go_simp; try with_reducible rfl)
  try simp only [Act.put, sA, sB, sC]
  refine tkL 2 (v := ?_) hHeld ?_ ?_
  rotate_left
  focus (intro wq hSw; have hRun := hS1 wq; clear hSw; go_simp; try with_reducible rfl)
  try simp only [Act.put, sA, sB, sC]
  refine tkL 4 (v := ?_) hHeld ?_ ?_
  rotate_left
  focus (intro wq hSw; clear hSw; go_simp; try with_reducible rfl)
  try simp only [Act.put, sA, sB, sC]
  refine tkL 5 (v := ?_) hHeld ?_ ?_
  rotate_left
  focus (intro wq hSw; have hRun := hS2 wq; clear hSw; go_simp; try with_reducible rfl)
  try simp only [Act.put, sA, sB, sC]
  refine rdL 3 (fun K hK => ?_)
  go_simp
  refine (hpa _ hHeld).mono ?_
  rintro e w1 ⟨A1, n1, c1, rfl, hO1, hb1⟩
  have hn1 : n1 ≤ 1000 := by have h1 := hO1.len; rw [List.length_cons, List.length_take] at h1; omega
  have H1 := Lib.hid (And.intro hO1 (Old.trans hHeld hb1))
  clear hO1 hb1 hpa
  refine hK.out _ _ H1.out.2 (fun hHeld => ?_)
  clear hK K
  try simp only [Act.put, sA, sB, sC]
  refine rdL 6 (fun K hK => ?_)
  go_simp
  refine (modesAll_any 5 false A A1 A' mk ck n1 c1 n' c' k (12 :: s.take 12) (s.drop 12) w1 (HH.out.1.below H1.out.2) H1.out.1.rd (HH.out.2.2.1.below H1.out.2) (by omega) (by omega)).mono ?_
  rintro e w2 ⟨A2, n2, c2, rfl, hO2, hB2⟩
  rw [HH.out.2.2.2.1] at hO2
  simp only [HH.out.2.2.2.1]
  have H2 := Lib.hid (And.intro hO2 (Old.trans H1.out.2 hB2))
  clear hO2 hB2
  refine hK.out _ _ H2.out.2 (fun hHeld => ?_)
  clear hK K
  try simp only [Act.put, sA, sB, sC]
  refine tkL 7 (v := ?_) hHeld ?_ ?_
  rotate_left
  focus (intro wq hSw; clear hSw; go_simp; try with_reducible rfl)
  try simp only [Act.put, sA, sB, sC]
  refine tkL 8 (v := ?_) hHeld ?_ ?_
  rotate_left
  focus (intro wq hSw; clear hSw; go_simp; try with_reducible rfl)
  try simp only [Act.put, sA, sB, sC]
  refine tkL 9 (v := ?_) hHeld ?_ ?_
  rotate_left
  focus (intro wq hSw; clear hSw; go_simp; try with_reducible rfl)
  try simp only [Act.put, sA, sB, sC]
  refine tkL 10 (v := ?_) hHeld ?_ ?_
  rotate_left
  focus (intro wq hSw; clear hSw; go_simp; try with_reducible rfl)
  try simp only [Act.put, sA, sB, sC]
  refine tkL 11 (v := ?_) hHeld ?_ ?_
  rotate_left
  focus (intro wq hSw; clear hSw; go_simp; try with_reducible rfl)
  try simp only [Act.put, sA, sB, sC]
  refine wpAnyH_done (by kernel_rfl) ?_ _
  refine NoPanic.normal ?_
  try go_at_K
  go_wp2_with fail
  rw [← hTG, HH.out.2.2.2.2]
  exact ⟨A2, n2, c2, rfl, H2.out.1.mono H1.out.2.size, H2.out.2⟩
 ·have t1 : (m : Int) < 12 := by omega
  have t2 : decide ((m : Int) < 12) = true := decide_eq_true t1
  have hS : unsealF k s = ([], false) := by
   unfold unsealF
   rw [if_pos (by omega)]
  rw [hTG]
  rw [hS] at hTG
  clear hk hp hml h12 hS
  go_enter Tryz.func19, Tryz.ntmps19
  go_wp2_with fail
  rw [← hTG]
  exact ⟨none, 0, 0, rfl, Own.nil _ _, Old.refl _⟩
end Go.Proofs.YtgjnmpjimhbfgaaGreatDoor
namespace Go.Proofs.YtgjnmpjimhbfgaaGreatDoor
set_option maxRecDepth 100000
open Go.RowKit
attribute [local go_sem] Oper.semAt_some
theorem rd_cst {w : World} {cs : Array Value} {fr : Nat × Nat} (l : List UInt8) (hcs : cs = (l.map B).toArray) (n : Nat) (hn : n = l.length) (hl : l.length ≤ 1000000) : Rd (w.alloc (.cells cs 5 fr)) (some ⟨w.heap.size, 0, none⟩) n n l := by
 subst hcs hn
 exact Rd.of_blk (heap_alloc_new w _) (by unfold maxLen; omega)
def ComLive (w : World) (x v d L n S k : Nat) (M' : List SRec) (e : Ending) (w' : World) : Prop :=
 ∃ s' ms' b', e = .returned (.int .i64 0) ∧ StAt w' x v d L b' (n + 1) S s' ms' M' ∧ FOk s' (k + 1000) ∧ w.heap.size ≤ b' ∧ KAt w' ∧ Turn [x, d, L, v] w w'
theorem stcommit_live {w : World} {x v d L b n S k : Nat} {s : Dsk} {ms : List (List UInt8)} {M : List SRec} (h : StAt w x v d L b n S s ms M) (A : Option Addr) (m c : Nat) (cs : List PC) (hC : ChsAt w A m cs) (hm0 : 0 < m) (hm : m ≤ 4096) (hok : cs.all okC = true)
  (hld : sload (schgs M cs) ≤ 64 * S) (hK : KAt w) (hn : n ≤ 99) (hf : FOk s k) (hk : k < 10000) (h0 : 64 ≤ S) (h1 : S ≤ 1000) (hN : M.length ≤ 90000) (hlen : ∀ q ∈ cs, q.l.length ≤ 100000) :
  Calls Tryz.prog 14 #[.pointer (some ⟨x, 0, none⟩), .slice A m c] w (ComLive w x v d L n S k (schgs M cs)) := by
 refine (stcommit_gen h.q A m c cs hC hm0 hm hok hld hK hn hf hk h0 h1 hN hlen).mono ?_
 rintro e w' ⟨ok, s', b', hts, rfl, hD, hV, hB, hM', _, hb', hK', hT⟩
 have hgl := h.mnt.G.len
 obtain ⟨s2, e2, hG2, hF2, hn2, hfu2, hde2⟩ := turn_live (m2 := after ms (putsP ms (pagesB (schgs M cs)) (pageN (pagesB (schgs M cs))))) h.mnt.G hf h.mnt.fu h.mnt.de (by rw [after_len]; exact hgl)
 rw [hts] at e2
 injection e2 with ea eb
 subst ea eb
 rw [h.mnt.sn] at hgl
 have hfi := schgs_fine (fun p hp => ⟨h.fine.ids p hp, h.fine.len p hp⟩) hok
 refine ⟨s', _, b', rfl, ⟨hB, ⟨hD, hV, hG2, hn2.trans h.mnt.sn, hde2, hfu2⟩, hM', ⟨fun p hp => (hfi p hp).1, fun p hp => (hfi p hp).2, by omega⟩, ?_, hld⟩, hF2, hb', hK', hT⟩
 refine Vol.after h.vol.full ?_
 rw [hgl]
 exact room_fits hld h0
theorem iterFN (f : FuncId) (lb : Array Value) (w : World) : (binOp .eql 48 (.func (.func f) #[] lb) .nilFunc).run Tryz.prog w = .ok (.bool false) w := by kernel_rfl
theorem mark_any {w : World} {g n c : Nat} {C : Array Value} (h : Blk w g 5 C) : ∃ w', (convert 32 32 (.slice (some ⟨g, 0, none⟩) n c)).run Tryz.prog w = .ok (.slice (some ⟨g, 0, none⟩) n c) w' ∧ w'.heap[g]? = some (.cells C 5 (C.size, C.size + 1)) ∧ Turn [g] w w' := by
 have hsh : w.shape? g = some (5, C.size) := by unfold World.shape?; rw [h]
 refine ⟨w.freeze ⟨g, C.size, none⟩ 1, ?_, ?_, ?_⟩
 ·simp [convert, run_underlying Tryz.underlying32, run_underlying Tryz.underlying5, markStringish, hsh]
 ·unfold World.freeze
  rw [if_neg (by decide)]
  simp only [Array.getElem?_modify]
  rw [if_pos trivial, h]
  rfl
 ·unfold World.freeze
  rw [if_neg (by decide)]
  exact ⟨rfl, rfl, rfl, by simp, fun k _ hk => by simp only [Array.getElem?_modify]; rw [if_neg (by simp at hk; exact fun e => hk e.symm)]⟩
structure Z3 (w0 W : World) (p0 p1 p2 : Option Nat) (mk : Bool) : Prop where
 old : Old w0 W
 z0 : ∀ g, p0 = some g → Rd W (some ⟨g, 0, none⟩) 16 16 (zs 16)
 z1 : ∀ g, p1 = some g → Rd W (some ⟨g, 0, none⟩) 12 12 (zs 12)
 z2 : ∀ g, p2 = some g → w0.heap.size ≤ g ∧ g < W.heap.size ∧ (if mk then Rd W (some ⟨g, 0, none⟩) 1 1 [109] else Blk W g 5 #[.int .u8 109])
 ne : ∀ g h, p2 = some g → (p0 = some h ∨ p1 = some h) → h ≠ g
 lt : ∀ h, (p0 = some h ∨ p1 = some h) → h < W.heap.size
theorem Z3.start {w0 W : World} (h : Old w0 W) : Z3 w0 W none none none false := ⟨h, (fun _ e => by cases e), (fun _ e => by cases e), (fun _ e => by cases e), (fun _ _ e => by cases e), (fun _ e => by rcases e with e | e <;> cases e)⟩
theorem Z3.more {w0 W W' : World} {p0 p1 p2 : Option Nat} {mk : Bool} (h : Z3 w0 W p0 p1 p2 mk) (hb : Old W W') : Z3 w0 W' p0 p1 p2 mk :=
 ⟨Old.trans h.old hb, fun g e => (h.z0 g e).below hb, fun g e => (h.z1 g e).below hb, fun g e => ⟨(h.z2 g e).1, Nat.lt_of_lt_of_le (h.z2 g e).2.1 hb.size, by
  have := (h.z2 g e).2.2
  cases mk with
  | true => exact Rd.below this hb
  | false => exact Blk.below this hb⟩, h.ne, fun x e => Nat.lt_of_lt_of_le (h.lt x e) hb.size⟩
section
variable {ops : Array Oper} {o : Oper} {a : Act} {w0 w : World} {K : Act → World → Prop} {Q : Exit → Act → World → Prop} {E : Prop} {p0 p1 p2 : Option Nat} {mk : Bool}
theorem step_z16 (h : Z3 w0 w none p1 p2 mk) (hg : o.guard = none) (ho : o.op = .makeSlice 32 (.const (.int .i64 16)) (.const (.int .i64 16)))
  (hK : ∀ w', Z3 w0 w' (some w.heap.size) p1 p2 mk → K (a.put o.dst (.slice (some ⟨w.heap.size, 0, none⟩) 16 16)) w') : if Region.wanted o (yielded ops a.tmps) = true then Oper.wp Tryz.prog o a w K Q else E := by
 rw [if_pos (by simp [Region.wanted, hg])]
 have hr := Tryz.prog_make 16 (by omega) w
 rw [show ((16 : Nat) : Int) = 16 from rfl] at hr
 unfold Oper.wp
 simp [execOp, ho, Act.eval, hr, Result.andThen]
 have hm := h.more ((Old.refl w).alloc (.cells (madeCells #[.int .u8 0] 16) 5))
 refine hK _ ⟨hm.old, fun g e => ?_, hm.z1, hm.z2, fun g x e e2 => ?_, fun x e => ?_⟩
 ·cases e; exact (Own.made w 16 (by unfold maxLen; omega)).rd
 ·rcases e2 with e2 | e2
  ·cases e2; have := (h.z2 g e).2.1; omega
  ·exact h.ne g x e (.inr e2)
 ·rcases e with e | e
  ·cases e; simp
  ·exact hm.lt x (.inr e)
theorem step_z12 (h : Z3 w0 w p0 none p2 mk) (hg : o.guard = none) (ho : o.op = .makeSlice 32 (.const (.int .i64 12)) (.const (.int .i64 12)))
  (hK : ∀ w', Z3 w0 w' p0 (some w.heap.size) p2 mk → K (a.put o.dst (.slice (some ⟨w.heap.size, 0, none⟩) 12 12)) w') : if Region.wanted o (yielded ops a.tmps) = true then Oper.wp Tryz.prog o a w K Q else E := by
 rw [if_pos (by simp [Region.wanted, hg])]
 have hr := Tryz.prog_make 12 (by omega) w
 rw [show ((12 : Nat) : Int) = 12 from rfl] at hr
 unfold Oper.wp
 simp [execOp, ho, Act.eval, hr, Result.andThen]
 have hm := h.more ((Old.refl w).alloc (.cells (madeCells #[.int .u8 0] 12) 5))
 refine hK _ ⟨hm.old, hm.z0, fun g e => ?_, hm.z2, fun g x e e2 => ?_, fun x e => ?_⟩
 ·cases e; exact (Own.made w 12 (by unfold maxLen; omega)).rd
 ·rcases e2 with e2 | e2
  ·exact h.ne g x e (.inl e2)
  ·cases e2; have := (h.z2 g e).2.1; omega
 ·rcases e with e | e
  ·exact hm.lt x (.inl e)
  ·cases e; simp
theorem step_zm (h : Z3 w0 w p0 p1 none false) (hg : o.guard = none) (ho : o.op = .buildSlice 32 1 #[(0, .const (.int .u8 109))])
  (hK : ∀ w', Z3 w0 w' p0 p1 (some w.heap.size) false → K (a.put o.dst (.slice (some ⟨w.heap.size, 0, none⟩) 1 1)) w') : if Region.wanted o (yielded ops a.tmps) = true then Oper.wp Tryz.prog o a w K Q else E := by
 rw [if_pos (by simp [Region.wanted, hg])]
 have hm := h.more ((Old.refl w).alloc (.cells #[.int .u8 109] 5))
 have hb : Z3 w0 (w.alloc (.cells #[.int .u8 109] 5)) p0 p1 (some w.heap.size) false := ⟨hm.old, hm.z0, hm.z1, fun g e => by
  cases e
  exact ⟨h.old.size, by simp, Blk.new w _ _⟩, fun g x e e2 => by
  cases e
  have := h.lt x e2
  omega, hm.lt⟩
 have hk := hK _ hb
 clear hK hm hb h
 unfold Oper.wp
 simp [execOp, ho, Act.eval, go_sem, Result.andThen]
 exact hk
theorem step_zk {g : Nat} (h : Z3 w0 w p0 p1 (some g) false) (t : Tmp) (hg : o.guard = none) (ho : o.op = .convert 32 32 (.tmp t)) (ht : a.eval (.tmp t) = .slice (some ⟨g, 0, none⟩) 1 1)
  (hK : ∀ w', Z3 w0 w' p0 p1 (some g) true → K (a.put o.dst (.slice (some ⟨g, 0, none⟩) 1 1)) w') : if Region.wanted o (yielded ops a.tmps) = true then Oper.wp Tryz.prog o a w K Q else E := by
 rw [if_pos (by simp [Region.wanted, hg])]
 obtain ⟨h1, h2, h3⟩ := h.z2 g rfl
 obtain ⟨w', hr, hb, hT⟩ := mark_any (n := 1) (c := 1) h3
 have ht' : a.tmps[t]?.getD undef = .slice (some ⟨g, 0, none⟩) 1 1 := by simpa [Act.eval] using ht
 unfold Oper.wp
 simp [execOp, ho, ht, hr, Result.andThen]
 refine hK _ ⟨below_turn h.old hT (by intro u hu; simp at hu; subst hu; exact h1) h.old.size, fun x e => (h.z0 x e).turn hT (fun ad ea hm => ?_), fun x e => (h.z1 x e).turn hT (fun ad ea hm => ?_), fun x e => ?_, h.ne, fun x e => Nat.lt_of_lt_of_le (h.lt x e) hT.size⟩
 ·cases ea; simp at hm; exact h.ne g x rfl (.inl e) hm
 ·cases ea; simp at hm; exact h.ne g x rfl (.inr e) hm
 ·cases e
  exact ⟨h1, Nat.lt_of_lt_of_le h2 hT.size, Rd.of_blk (l := [109]) hb (by unfold maxLen; simp)⟩
end
theorem chs_one {w : World} (id : Int) (A : Option Addr) (n c : Nat) (l : List UInt8) (h : Rd w A n c l) (hid : wfI id) : ChsAt (w.alloc (.cells #[.int .i64 id, .bool false, .slice A n c] 34)) (some ⟨w.heap.size, 0, none⟩) 1 [⟨id, false, A, n, c, l⟩] :=
 ⟨Blk.rdC Tryz.eC (Blk.new w 34 #[.int .i64 id, .bool false, .slice A n c]) rfl, fun p hp => by rw [List.mem_singleton] at hp; subst hp; exact h.below ((Old.refl w).alloc _), fun p hp => by rw [List.mem_singleton] at hp; subst hp; exact hid⟩
theorem sealF_ok (k iv b : List UInt8) (hk : keyOk k) (hi : iv.length = 12) : (sealF k iv b).2 = true ∧ unsealF k (sealF k iv b).1 = (b, true) := by
 have hab := all_back 5 k (12 :: iv) b (fun h => by omega)
 have hp : parOk 5 (12 :: iv) := by
  unfold parOk gcmOk
  simp
  omega
 have hz : (allF 5 true k (12 :: iv) b).2 = 0 := by
  unfold allF
  rw [if_neg (by decide), if_neg (fun h => h hk)]
  show (if ¬ parOk 5 (12 :: iv) then (([] : List UInt8), (113 : Int)) else (if ((PSof 5 true k (12 :: iv)).fin b).2 = 0 then ((PSof 5 true k (12 :: iv)).front b ++ ((PSof 5 true k (12 :: iv)).fin b).1, 0) else ([], ((PSof 5 true k (12 :: iv)).fin b).2))).2 = 0
  rw [if_neg (fun h => h hp)]
  have hf : ((PSof 5 true k (12 :: iv)).fin b).2 = 0 := by
   unfold PS.fin
   rw [if_neg (show ¬ (PSof 5 true k (12 :: iv)).mode = 4 from (by show ¬ (5 : Nat) = 4; decide)), if_pos (show (PSof 5 true k (12 :: iv)).mode = 5 from rfl), if_pos (show (PSof 5 true k (12 :: iv)).enc = true from rfl)]
  rw [if_pos hf]
 have hb := hab.2.1 hz
 unfold sealF
 rw [if_pos hi, if_pos hz]
 refine ⟨rfl, ?_⟩
 unfold unsealF
 simp only
 rw [if_neg (by rw [List.length_append]; omega), List.take_append_of_le_length (by omega), List.take_of_length_le (by omega), List.drop_append_of_le_length (by omega), List.drop_of_length_le (by omega), List.nil_append, hb]
 rfl
theorem sealF_len (k iv b : List UInt8) : (sealF k iv b).1.length ≤ iv.length + b.length + 32 := by
 have hal := (all_back 5 k (12 :: iv) b (fun h => by omega)).2.2
 unfold sealF
 split
 ·split
  ·simp only [List.length_append]; omega
  ·simp
 ·simp
set_option maxHeartbeats 8000000 in
theorem stbegun_any (w : World) (hK : KAt w) : Calls Tryz.prog 9 #[] w fun e w' => e = .returned (.bool true) ∧ Old w w' := by
 have h80 := dk_new 80 (by omega) (by omega) w
 rw [show ((80 : Nat) : Int) = 80 from rfl] at h80
 have kc := fun (w : World) (C : Array Value) (n c : Nat) => Lib.run_convert_bytes_const (P := Tryz.prog) w 32 5 C n c Tryz.underlying32 Tryz.underlying5
 have hne := neStore
 have HW := Lib.hid hK
 clear hK
 refine calls_of_marks Tryz.func9 rfl ?_
 simp only [Tryz.ntmps9, List.size_toArray, List.length_nil, Nat.reduceSub, Array.replicate_succ, Array.replicate_zero, List.push_toArray, List.append_toArray, List.nil_append, List.cons_append]
 go_wp2_with fail
 refine h80.mono ?_
 rintro e w1 ⟨d, L, rfl, hD1, hdw, hLw, hO1⟩
 have hfm := stformat_any d L 80 (Dsk.new 80) w1 hD1 (zeroD_new 80) rfl (by omega) (by omega) (new_fok 80) ⟨rfl, rfl⟩ (HW.out.below hO1)
 have H1 := Lib.hid (And.intro hdw (And.intro hLw hO1))
 clear hD1 hdw hLw hO1 h80
 go_wp2_with fail
 refine hfm.mono ?_
 rintro e w2 ⟨s2, ms2, rfl, hDv2, hV2, hl2, hF2, hK2, hT2⟩
 have hO2 : Old w w2 := below_turn H1.out.2.2 hT2 (by have h1 := H1.out.1; have h2 := H1.out.2.1; simp; omega) H1.out.2.2.size
 have hop := stopen_any hDv2 (by omega) (by omega) (by omega) hV2 Fine.nil Rising.nil (by simp [sload]) (by simp) hK2
 have H2 := Lib.hid (And.intro hF2 (And.intro hK2 hO2))
 clear hfm hDv2 hV2 hl2 hF2 hK2 hT2 hO2
 go_wp2_with fail
 refine hop.mono ?_
 rintro e w3 ⟨x, v, b, rfl, hS3, hx3, hv3, hb3, hO3⟩
 have hO3w : Old w w3 := Old.trans H2.out.2.2 hO3
 have hA3 := (rd_cst (w := w3) (fr := (3, 4)) [97, 98, 99] (cs := #[.int .u8 97, .int .u8 98, .int .u8 99]) rfl 3 rfl (by simp))
 have hcs := chs_one 7 _ 3 3 _ hA3 (by unfold wfI; decide)
 obtain ⟨w4, hw4⟩ : ∃ w4, (w3.alloc (.cells #[.int .u8 97, .int .u8 98, .int .u8 99] 5 (3, 4))).alloc (.cells #[.int .i64 7, .bool false, .slice (some ⟨w3.heap.size, 0, none⟩) 3 3] 34) = w4 := ⟨_, rfl⟩
 have hO4 : Old w3 w4 := by rw [← hw4]; exact ((Old.refl _).alloc _).alloc _
 rw [hw4, show (w3.alloc (.cells #[.int .u8 97, .int .u8 98, .int .u8 99] 5 (3, 4))).heap.size = w3.heap.size + 1 by simp] at hcs
 have hcm := stcommit_live (hS3.below hO4) _ 1 1 _ hcs (by omega) (by omega) rfl (by show 3 + 8 + 0 ≤ 64 * 80; omega) ((H2.out.2.1.below hO3).below hO4) (by omega) H2.out.1 (by omega) (by omega) (by omega) (by simp) (fun q hq => by rw [List.mem_singleton] at hq; subst hq; simp)
 have hsz : w.heap.size ≤ d ∧ w.heap.size ≤ L := ⟨H1.out.1, H1.out.2.1⟩
 have H3 := Lib.hid (And.intro (Nat.le_trans H2.out.2.2.size hx3) (And.intro (Nat.le_trans H2.out.2.2.size hv3) (And.intro (Old.trans hO3w hO4) hsz)))
 clear hop hS3 hx3 hv3 hb3 hO3 hO3w hA3 hcs hO4 hsz
 go_wp2_with fail
 try rw [hw4]
 clear hw4
 refine hcm.mono ?_
 rintro e w5 ⟨s5, ms5, b5, rfl, hS5, hF5, hb5, hK5, hT5⟩
 have hO5 : Old w w5 := below_turn H3.out.2.2.1 hT5 (by intro u hu; simp at hu; rcases hu with rfl | rfl | rfl | rfl; exact H3.out.1; exact H3.out.2.2.2.1; exact H3.out.2.2.2.2; exact H3.out.2.1) H3.out.2.2.1.size
 rw [show schgs [] [⟨7, false, some ⟨w3.heap.size, 0, none⟩, 3, 3, [97, 98, 99]⟩] = [(7, [97, 98, 99])] from rfl] at hS5
 have hgt := Get_any x b5 _ _ _ _ 7 w5 hS5.blk hS5.map (by unfold wfI; decide) (by intro q hq; rw [List.mem_singleton] at hq; subst hq; simp)
 rw [show sget [(7, [97, 98, 99])] 7 = some [97, 98, 99] from rfl] at hgt
 have H5 := Lib.hid (And.intro hS5 (And.intro hO5 hK5))
 clear hcm hS5 hF5 hb5 hK5 hT5 hO5
 go_wp2_with fail
 refine hgt.mono ?_
 rintro e w6 ⟨A6, c6, rfl, hO6, hB6⟩
 rw [show (some [97, 98, 99] : Option (List UInt8)).getD [] = [97, 98, 99] from rfl, show ([97, 98, 99] : List UInt8).length = 3 from rfl] at hO6
 rw [show (some [97, 98, 99] : Option (List UInt8)).getD [] = [97, 98, 99] from rfl, show ([97, 98, 99] : List UInt8).length = 3 from rfl]
 have H6 := Lib.hid (And.intro hO6 (And.intro (H5.out.1.below hB6) (Old.trans H5.out.2.1 hB6)))
 clear hgt hO6 hB6
 go_wp2_with fail
 refine (stall_any (some ⟨x, 0, none⟩) w6).mono ?_
 rintro e w7 ⟨rfl, hw7⟩
 have hif := iterFN
 have hO7 : Old w6 w7 := by rw [hw7]; exact (Old.refl _).alloc _
 have hbx7 : w7.cell? ⟨w6.heap.size, 0, none⟩ = some (.pointer (some ⟨x, 0, none⟩)) := by rw [hw7]; exact (Blk.new w6 28 #[.pointer (some ⟨x, 0, none⟩)]).cell 0
 have hs7 : w7.heap.size = w6.heap.size + 1 := by rw [hw7]; simp
 obtain ⟨kx, hkx⟩ : ∃ kx, w7.heap.size = kx := ⟨_, rfl⟩
 obtain ⟨w8, hw8⟩ : ∃ w8, w7.alloc (.cells #[.int .i64 0] 3) = w8 := ⟨_, rfl⟩
 have hk8 : Blk w8 kx 3 #[.int .i64 0] := by rw [← hw8, ← hkx]; exact Blk.new _ _ _
 have hO8 : Old w7 w8 := by rw [← hw8]; exact (Old.refl _).alloc _
 have hS7 := H6.out.2.1.below hO7
 have hS8 := hS7.below hO8
 have hit := all_iter w7 w6.heap.size x b5 _ _ _ _ hbx7 (by omega) hS7.blk hS7.map (by simp) (by intro q hq; rw [List.mem_singleton] at hq; subst hq; simp)
 rw [show ([(7, [97, 98, 99])] : List SRec).length = 1 from rfl] at hit
 have hcn := CntI.start hk8
 rw [hkx] at hit
 have hk8s : w8.heap.size = kx + 1 := by rw [← hw8, ← hkx]; simp
 have HI := Lib.hid (And.intro hit (And.intro hcn (And.intro hS8 (And.intro (Old.trans H6.out.2.2 (Old.trans hO7 hO8)) (And.intro hO8 (And.intro hO7 hk8s))))))
 have hkw : w.heap.size ≤ kx := by rw [← hkx]; exact (Old.trans H6.out.2.2 hO7).size
 have HKW := Lib.hid (And.intro hkw (And.intro hkx hw8))
 clear hw7 hbx7 hk8 hS8 hS7 hit hcn hO7 hO8 hs7 hk8s hkw hkx hw8
 go_wp2_with fail
 rw [HKW.out.2.2, HKW.out.2.1]
 refine wp_rangeCnt (M := [(7, [97, 98, 99])]) HI.out.1 HI.out.2.2.2.2.1 HI.out.2.1.cnt rfl (fun _ _ => by kernel_rfl) rfl ?hbody ?hdone
 case hbody =>
  intro l k u1 u2 W R hk c0 f0 hR
  obtain rfl : k = 0 := by simp at hk; exact hk
  have HR := Lib.hid hR
  clear hR hk
  gi_wp2
  exact HR.out _
 case hdone =>
  intro W hlt hT hc hK
  rw [HI.out.2.2.2.2.2.2] at hlt hK ⊢
  have hO6 : Old w6 W := below_turn (Old.trans HI.out.2.2.2.2.2.1 HI.out.2.2.2.2.1) hT (by intro u hu; simp at hu; subst hu; rw [← HKW.out.2.1]; exact HI.out.2.2.2.2.2.1.size) (Old.trans HI.out.2.2.2.2.2.1 HI.out.2.2.2.2.1).size
  have HD := Lib.hid (And.intro hlt (And.intro hO6 (And.intro hc hK)))
  obtain ⟨Z16, hz16⟩ : ∃ Z, zs 16 = Z := ⟨_, rfl⟩
  obtain ⟨Z12, hz12⟩ : ∃ Z, zs 12 = Z := ⟨_, rfl⟩
  have hk16 : keyOk Z16 := by rw [← hz16]; exact .inl (zs_len 16)
  have hl12 : Z12.length = 12 := by rw [← hz12]; exact zs_len 12
  obtain ⟨hs1, hs2⟩ := sealF_ok Z16 Z12 [109] hk16 hl12
  have hs3 := sealF_len Z16 Z12 [109]
  obtain ⟨SB, hSB⟩ : ∃ V, sealF Z16 Z12 [109] = V := ⟨_, rfl⟩
  rw [hSB] at hs1 hs2 hs3
  obtain ⟨SB, sb⟩ := SB
  simp only at hs1 hs2 hs3
  subst hs1
  have hs4 : SB.length ≤ 1000 := by simp at hs3; omega
  have HZ := Lib.hid (And.intro hz16 (And.intro hz12 (And.intro hSB (And.intro hs2 hs4))))
  clear hlt hT hc hK hO6 hz16 hz12 hk16 hl12 hSB hs2 hs3 hs4
  go_upto_region 14 with fail
  go_cut [10, 11] from 52 to 60 (fun v10 v11 wx => ∃ (A : Option Addr) (n c : Nat), v10 = .slice A n c ∧ v11 = .bool true ∧ Own wx 0 (.slice A n c) SB ∧ Old W wx)
  case first =>
   refine region_old (by kernel_rfl) (fun wd hHeld hSz => ?_)
   have HSz := Lib.hid hSz
   clear hSz
   have hz : Z3 W wd none none none false := Z3.start hHeld
   (refine wpAnyH_ready (rs := [0, 1, 2]) (by kernel_rfl) (by simp) ?_; refine (consL rfl (fun K hK => ?_) (consL rfl (fun K hK => ?_) (consL rfl (fun K hK => ?_) AllReadyH.nil))))
   all_goals (first
    | refine step_z16 hz rfl rfl (fun v hz => hK.out _ _ hz.old (fun hHeld => ?_))
    | refine step_z12 hz rfl rfl (fun v hz => hK.out _ _ hz.old (fun hHeld => ?_))
    | refine step_zm hz rfl rfl (fun v hz => hK.out _ _ hz.old (fun hHeld => ?_))
    | refine step_zk hz 55 rfl rfl rfl (fun v hz => hK.out _ _ hz.old (fun hHeld => ?_)))
   all_goals (clear hK K; try simp only [Act.put, sA, sB, sC])
   all_goals (first | (have hg : Z3 _ _ (some _) none none false := hz; clear hg; refine wpAnyH_ready (rs := [1, 2]) (by kernel_rfl) (by simp) ?_; refine (consL rfl (fun K hK => ?_) (consL rfl (fun K hK => ?_) AllReadyH.nil))) | (have hg : Z3 _ _ none (some _) none false := hz; clear hg; refine wpAnyH_ready (rs := [0, 2]) (by kernel_rfl) (by simp) ?_; refine (consL rfl (fun K hK => ?_) (consL rfl (fun K hK => ?_) AllReadyH.nil))) | (have hg : Z3 _ _ none none (some _) false := hz; clear hg; refine wpAnyH_ready (rs := [0, 1, 3]) (by kernel_rfl) (by simp) ?_; refine (consL rfl (fun K hK => ?_) (consL rfl (fun K hK => ?_) (consL rfl (fun K hK => ?_) AllReadyH.nil)))))
   all_goals (first
    | refine step_z16 hz rfl rfl (fun v hz => hK.out _ _ hz.old (fun hHeld => ?_))
    | refine step_z12 hz rfl rfl (fun v hz => hK.out _ _ hz.old (fun hHeld => ?_))
    | refine step_zm hz rfl rfl (fun v hz => hK.out _ _ hz.old (fun hHeld => ?_))
    | refine step_zk hz 55 rfl rfl rfl (fun v hz => hK.out _ _ hz.old (fun hHeld => ?_)))
   all_goals (clear hK K; try simp only [Act.put, sA, sB, sC])
   all_goals (first | (have hg : Z3 _ _ (some _) (some _) none false := hz; clear hg; refine wpAnyH_ready (rs := [2]) (by kernel_rfl) (by simp) ?_; refine (consL rfl (fun K hK => ?_) AllReadyH.nil)) | (have hg : Z3 _ _ (some _) none (some _) false := hz; clear hg; refine wpAnyH_ready (rs := [1, 3]) (by kernel_rfl) (by simp) ?_; refine (consL rfl (fun K hK => ?_) (consL rfl (fun K hK => ?_) AllReadyH.nil))) | (have hg : Z3 _ _ none (some _) (some _) false := hz; clear hg; refine wpAnyH_ready (rs := [0, 3]) (by kernel_rfl) (by simp) ?_; refine (consL rfl (fun K hK => ?_) (consL rfl (fun K hK => ?_) AllReadyH.nil))) | (have hg : Z3 _ _ none none (some _) true := hz; clear hg; refine wpAnyH_ready (rs := [0, 1]) (by kernel_rfl) (by simp) ?_; refine (consL rfl (fun K hK => ?_) (consL rfl (fun K hK => ?_) AllReadyH.nil))))
   all_goals (first
    | refine step_z16 hz rfl rfl (fun v hz => hK.out _ _ hz.old (fun hHeld => ?_))
    | refine step_z12 hz rfl rfl (fun v hz => hK.out _ _ hz.old (fun hHeld => ?_))
    | refine step_zm hz rfl rfl (fun v hz => hK.out _ _ hz.old (fun hHeld => ?_))
    | refine step_zk hz 55 rfl rfl rfl (fun v hz => hK.out _ _ hz.old (fun hHeld => ?_)))
   all_goals (clear hK K; try simp only [Act.put, sA, sB, sC])
   all_goals (first | (have hg : Z3 _ _ (some _) (some _) (some _) false := hz; clear hg; refine wpAnyH_ready (rs := [3]) (by kernel_rfl) (by simp) ?_; refine (consL rfl (fun K hK => ?_) AllReadyH.nil)) | (have hg : Z3 _ _ (some _) none (some _) true := hz; clear hg; refine wpAnyH_ready (rs := [1]) (by kernel_rfl) (by simp) ?_; refine (consL rfl (fun K hK => ?_) AllReadyH.nil)) | (have hg : Z3 _ _ none (some _) (some _) true := hz; clear hg; refine wpAnyH_ready (rs := [0]) (by kernel_rfl) (by simp) ?_; refine (consL rfl (fun K hK => ?_) AllReadyH.nil)))
   all_goals (first
    | refine step_z16 hz rfl rfl (fun v hz => hK.out _ _ hz.old (fun hHeld => ?_))
    | refine step_z12 hz rfl rfl (fun v hz => hK.out _ _ hz.old (fun hHeld => ?_))
    | refine step_zm hz rfl rfl (fun v hz => hK.out _ _ hz.old (fun hHeld => ?_))
    | refine step_zk hz 55 rfl rfl rfl (fun v hz => hK.out _ _ hz.old (fun hHeld => ?_)))
   all_goals (clear hK K; try simp only [Act.put, sA, sB, sC])
   all_goals
    have r0 := hz.z0 _ rfl
    have r1 := hz.z1 _ rfl
    have r2 : Rd _ _ 1 1 [109] := (hz.z2 _ rfl).2.2
    rw [HZ.out.1] at r0
    rw [HZ.out.2.1] at r1
    refine rdL 4 (fun K hK => ?_)
    go_simp
    refine (seal_any _ _ _ 16 16 12 12 1 1 Z16 Z12 [109] _ r0 r1 r2 (by omega) (by omega)).mono ?_
    rintro e vS ⟨A9, n9, c9, rfl, hO9, hB9⟩
    rw [HZ.out.2.2.1] at hO9
    simp only [HZ.out.2.2.1]
    refine hK.out _ _ (Old.trans hHeld hB9) (fun hHeld => ?_)
    clear hK K r0 r1 r2
    have HO := Lib.hid hO9
    clear hO9 hz
    try simp only [Act.put, sA, sB, sC]
    refine tkL 5 (v := ?_) hHeld ?_ ?_
    rotate_left
    focus (intro wq hSw; clear hSw; go_simp; try with_reducible rfl)
    try simp only [Act.put, sA, sB, sC]
    refine tkL 6 (v := ?_) hHeld ?_ ?_
    rotate_left
    focus (intro wq hSw; clear hSw; go_simp; try with_reducible rfl)
    try simp only [Act.put, sA, sB, sC]
    refine tkL 7 (v := ?_) hHeld ?_ ?_
    rotate_left
    focus (intro wq hSw; clear hSw; go_simp; try with_reducible rfl)
    try simp only [Act.put, sA, sB, sC]
    refine tkL 8 (v := ?_) hHeld ?_ ?_
    rotate_left
    focus (intro wq hSw; clear hSw; go_simp; try with_reducible rfl)
    try simp only [Act.put, sA, sB, sC]
    refine tkL 9 (v := ?_) hHeld ?_ ?_
    rotate_left
    focus (intro wq hSw; clear hSw; go_simp; try with_reducible rfl)
    try simp only [Act.put, sA, sB, sC]
    refine wpAnyH_done (by kernel_rfl) ?_ _
    refine NoPanic.normal ?_
    try simp only [Exit.then]
    try go_at_K
    go_wp2_with fail
    go_meet
    case rel => exact ⟨A9, n9, c9, rfl, rfl, HO.out.mono (Nat.zero_le _), hHeld⟩
  case rest =>
   obtain ⟨A9, n9, c9, rfl, rfl, hO9, hB9⟩ := hcut
   have hn9 : n9 ≤ 1000 := by have h1 := hO9.len; have h2 := HZ.out.2.2.2.2; omega
   have hmk := Tryz.prog_make 16 (by omega) wc
   obtain ⟨w10, hw10⟩ : ∃ x, wc.alloc (.cells (madeCells #[.int .u8 0] 16) 5) = x := ⟨_, rfl⟩
   have r0 : Rd w10 (some ⟨wc.heap.size, 0, none⟩) 16 16 Z16 := by rw [← hw10, ← HZ.out.1]; exact (Own.made wc 16 (by unfold maxLen; omega)).rd
   have hO10 : Old wc w10 := by rw [← hw10]; exact (Old.refl _).alloc _
   rw [hw10, show ((16 : Nat) : Int) = 16 from rfl] at hmk
   have hW10 : Old W w10 := Old.trans hB9 hO10
   have hun := unseal_any (some ⟨wc.heap.size, 0, none⟩) A9 16 16 n9 c9 Z16 SB w10 r0 (hO9.rd.below hO10) (by omega)
   rw [HZ.out.2.2.2.1] at hun
   have HT := Lib.hid hW10
   clear r0 hO10 hW10 hO9 hB9 hw10
   go_upto_region 16 with (go_at_call 19; refine hun.mono ?_; rintro e w11 ⟨A11, n11, c11, rfl, hO11, hB11⟩; have H11 := Lib.hid (And.intro hO11 (Old.trans HT.out hB11)); clear hO11 hB11)
   clear hmk hun
   have hW11 : Old w6 w11 := Old.trans HD.out.2.1 H11.out.2
   have s1 := (H6.out.1.rd.below hW11).str
   have c0 := (HD.out.2.2.1.below H11.out.2).cell 0
   simp only [List.getElem?_toArray, List.getElem?_cons_zero] at c0
   have hS11 := H6.out.2.1.below hW11
   have hld := Load_any x b5 _ _ _ _ w11 hS11.blk hS11.map (by show 3 + 8 + 0 ≤ _; omega)
   rw [show sload [(7, [97, 98, 99])] = 11 from rfl] at hld
   have hrm : ∀ w12, Old w11 w12 → Calls Tryz.prog 23 #[.pointer (some ⟨x, 0, none⟩)] w12 (fun e w' => e = .returned (.int .i64 ((64 * 80 : Nat) : Int)) ∧ w12 = w') := fun w12 ho => room_any x v d L b5 _ 80 _ _ _ w12 (hS11.below ho)
   have HF := Lib.hid (And.intro hW11 (Old.trans H6.out.2.2 hW11))
   clear hW11 hS11
   go_wp2_with (first
    | (go_at_call 16; refine hld.mono ?_; rintro e w12 ⟨rfl, hO12⟩; have s2 := (H11.out.1.rd.below hO12).str; have H12 := Lib.hid hO12; clear hO12)
    | (go_at_call 23; refine (hrm _ H12.out).mono ?_; rintro e w13 ⟨rfl, rfl⟩))
   have hO12 : Old W w12 := Old.trans H11.out.2 H12.out
   refine ret_mark rfl (D := kx + 1) ((hO12.block _ (by have := HD.out.1; omega)).trans HD.out.2.2.2) (fun W' => results_tmp rfl _ _ _) ⟨rfl, ?_⟩
   refine below_turn (Old.trans HF.out.2 H12.out) ((Turn.refl [kx + 1] _).putObj (.inl (by simp)) _) (by intro t h; simp at h; have := HKW.out.1; omega) (Old.trans HF.out.2 H12.out).size
end Go.Proofs.YtgjnmpjimhbfgaaGreatDoor
namespace Go.Proofs.YtgjnmpjimhbfgaaGreatDoor
set_option maxRecDepth 100000
open Go.RowKit
def sizeS (n : Int) : Nat := 64 + ((if n < 0 then -(n + 1) else n).toNat % 100)
theorem sizeS_in (n : Int) : 64 ≤ sizeS n ∧ sizeS n ≤ 163 := by unfold sizeS; omega
theorem lsize_any (n : Int) (h0 : -9223372036854775808 ≤ n) (h1 : n ≤ 9223372036854775807) (w : World) : Calls Tryz.prog 10 #[.int .i64 n] w fun e w' => e = .returned (.int .i64 (sizeS n : Int)) ∧ w = w' := by
 unfold sizeS
 by_cases h : n < 0
 ·rw [if_pos h]
  have hd : decide (n < 0) = true := decide_eq_true h
  obtain ⟨k, hk⟩ : ∃ k : Nat, -(n + 1) = k := ⟨(-(n + 1)).toNat, by omega⟩
  have g1 : IntKind.i64.wrap (n + 1) = n + 1 := IntWalk.i64_in _ (by omega)
  have g2 : IntKind.i64.wrap (-(n + 1)) = -(n + 1) := IntWalk.i64_in _ (by omega)
  rw [hk] at g2
  have hm : (k : Int).tmod 100 = ((k % 100 : Nat) : Int) := by rw [Int.tmod_eq_emod_of_nonneg (by omega)]; omega
  rw [hk, Int.toNat_natCast]
  obtain ⟨r, hr⟩ : ∃ r, k % 100 = r := ⟨_, rfl⟩
  have hrl : r < 100 := by omega
  rw [hr] at hm ⊢
  have hr2 : (r : Int) < 100 := by omega
  go_enter Tryz.func10, Tryz.ntmps10
  go_wp2_with fail
  try rw [hk]
  go_wp2_with fail
  go_ret
  exact ⟨by first | rfl | (congr 2; omega), rfl⟩
 ·rw [if_neg h]
  have hd : decide (n < 0) = false := decide_eq_false h
  obtain ⟨k, rfl⟩ : ∃ k : Nat, n = k := ⟨n.toNat, by omega⟩
  have hm : (k : Int).tmod 100 = ((k % 100 : Nat) : Int) := by rw [Int.tmod_eq_emod_of_nonneg (by omega)]; omega
  rw [Int.toNat_natCast]
  obtain ⟨r, hr⟩ : ∃ r, k % 100 = r := ⟨_, rfl⟩
  have hrl : r < 100 := by omega
  rw [hr] at hm ⊢
  have hr2 : (r : Int) < 100 := by omega
  go_enter Tryz.func10, Tryz.ntmps10
  go_wp2_with fail
  go_ret
  exact ⟨by first | rfl | (congr 2; omega), rfl⟩
theorem chs_zs (w : World) (id : Int) (n : Nat) (hid : wfI id) (hn : n ≤ 1000000) : ChsAt ((w.alloc (.cells (madeCells #[.int .u8 0] n) 5)).alloc (.cells #[.int .i64 id, .bool false, .slice (some ⟨w.heap.size, 0, none⟩) n n] 34)) (some ⟨w.heap.size + 1, 0, none⟩) 1 [⟨id, false, some ⟨w.heap.size, 0, none⟩, n, n, zs n⟩] := by
 have h := chs_one id _ n n _ (Own.made w n (by unfold maxLen; omega)).rd hid
 rwa [show (w.alloc (.cells (madeCells #[.int .u8 0] n) 5)).heap.size = w.heap.size + 1 by simp] at h
set_option maxHeartbeats 8000000 in
theorem storeFull_any (n f ls : Int) (w : World) (hK : KAt w) (hn0 : -9223372036854775808 ≤ n) (hn1 : n ≤ 9223372036854775807) :
  Calls Tryz.prog 3 #[.int .i64 n, .int .i64 f, .int .i64 ls] w fun e w' => e = .returned (.bool true) ∧ Old w w' := by
 have hbg := stbegun_any w hK
 have hsz := fun W => lsize_any n hn0 hn1 W
 obtain ⟨hS0, hS1⟩ := sizeS_in n
 obtain ⟨S, hS⟩ : ∃ S, sizeS n = S := ⟨_, rfl⟩
 simp only [hS] at hsz
 rw [hS] at hS0 hS1
 have hne := neStore
 have HW := Lib.hid hK
 clear hK hn0 hn1 hS
 go_enter Tryz.func3, Tryz.ntmps3
 go_wp2_with fail
 refine hbg.mono ?_
 rintro e w1 ⟨rfl, hO1⟩
 have H1 := Lib.hid hO1
 clear hO1 hbg
 go_wp2_with fail
 refine (hsz w1).mono ?_
 rintro e w1b ⟨rfl, rfl⟩
 clear hsz
 by_cases h0 : f < 0
 ·have d0 : decide (f < 0) = true := decide_eq_true h0
  go_wp2_with fail
  go_ret
  exact ⟨rfl, H1.out⟩
 have d0 : decide (f < 0) = false := decide_eq_false h0
 by_cases h1 : 2000 < f
 ·have d1 : decide (f > 2000) = true := decide_eq_true h1
  go_wp2_with fail
  go_ret
  exact ⟨rfl, H1.out⟩
 have d1 : decide (f > 2000) = false := decide_eq_false h1
 by_cases h2 : ls < 0
 ·have d2 : decide (ls < 0) = true := decide_eq_true h2
  go_wp2_with fail
  go_ret
  exact ⟨rfl, H1.out⟩
 have d2 : decide (ls < 0) = false := decide_eq_false h2
 by_cases h3 : 20 < ls
 ·have d3 : decide (ls > 20) = true := decide_eq_true h3
  go_wp2_with fail
  go_ret
  exact ⟨rfl, H1.out⟩
 have d3 : decide (ls > 20) = false := decide_eq_false h3
 obtain ⟨F, rfl⟩ : ∃ F : Nat, f = F := ⟨f.toNat, by omega⟩
 obtain ⟨L0, rfl⟩ : ∃ L : Nat, ls = L := ⟨ls.toNat, by omega⟩
 obtain ⟨T, hT⟩ : ∃ T, 64 * S = T := ⟨_, rfl⟩
 obtain ⟨lf, hlf⟩ : ∃ l, T - F - 16 = l := ⟨_, rfl⟩
 obtain ⟨rs, hrs⟩ : ∃ r, lf - L0 = r := ⟨_, rfl⟩
 have hnew := dk_new S (by omega) (by omega) w1
 have HN := Lib.hid (And.intro hT (And.intro hlf (And.intro hrs (And.intro hS0 hS1))))
 have HF := Lib.hid (And.intro h1 h3)
 clear hT hlf hrs h1 h3
 go_wp2_with fail
 refine hnew.mono ?_
 rintro e w2 ⟨d, L, rfl, hD1, hdw, hLw, hO1⟩
 have hfm := stformat_any d L S (Dsk.new S) w2 hD1 (zeroD_new S) (new_n S) HN.out.2.2.2.1 (by have := HN.out.2.2.2.2; omega) (new_fok S) ⟨rfl, rfl⟩ (HW.out.below (Old.trans H1.out hO1))
 have H2 := Lib.hid (And.intro (Nat.le_trans H1.out.size hdw) (And.intro (Nat.le_trans H1.out.size hLw) (Old.trans H1.out hO1)))
 clear hD1 hdw hLw hO1 hnew
 go_wp2_with fail
 refine hfm.mono ?_
 rintro e w3 ⟨s2, ms2, rfl, hDv2, hV2, hl2, hF2, hK2, hT2⟩
 have hO2 : Old w w3 := below_turn H2.out.2.2 hT2 (by have h1 := H2.out.1; have h2 := H2.out.2.1; simp; omega) H2.out.2.2.size
 have hop := stopen_any hDv2 (by omega) HN.out.2.2.2.1 (by have := HN.out.2.2.2.2; omega) hV2 Fine.nil Rising.nil (by simp [sload]) (by simp) hK2
 have H3 := Lib.hid (And.intro hF2 (And.intro hK2 hO2))
 clear hfm hDv2 hV2 hl2 hF2 hK2 hT2 hO2
 go_wp2_with fail
 refine hop.mono ?_
 rintro e w4 ⟨x, v, b, rfl, hS3, hx3, hv3, hb3, hO3⟩
 have hmk := Tryz.prog_make F (by have := HF.out.1; omega) w4
 have hcs := chs_zs w4 1 F (by unfold wfI; decide) (by have := HF.out.1; omega)
 obtain ⟨w5, hw5⟩ : ∃ w5, (w4.alloc (.cells (madeCells #[.int .u8 0] F) 5)).alloc (.cells #[.int .i64 1, .bool false, .slice (some ⟨w4.heap.size, 0, none⟩) F F] 34) = w5 := ⟨_, rfl⟩
 have hO4 : Old w4 w5 := by rw [← hw5]; exact ((Old.refl _).alloc _).alloc _
 rw [hw5] at hcs
 have hcm := stcommit_live (hS3.below hO4) _ 1 1 _ hcs (by omega) (by omega) (by have := HF.out.1; simp [okC, zs_len]; omega) (by show (zs F).length + 8 + 0 ≤ 64 * S; rw [zs_len]; have := HF.out.1; have := HN.out.2.2.2.1; omega) ((H3.out.2.1.below hO3).below hO4) (by omega) H3.out.1 (by omega) HN.out.2.2.2.1 (by have := HN.out.2.2.2.2; omega) (by simp) (fun q hq => by rw [List.mem_singleton] at hq; subst hq; have := HF.out.1; simp [zs_len]; omega)
 have H4 := Lib.hid (And.intro (Nat.le_trans H3.out.2.2.size hx3) (And.intro (Nat.le_trans H3.out.2.2.size hv3) (Old.trans (Old.trans H3.out.2.2 hO3) hO4)))
 have HW5 := Lib.hid hw5
 clear hop hS3 hx3 hv3 hb3 hO3 hcs hO4 hw5
 go_wp2_with fail
 rw [HW5.out]
 refine hcm.mono ?_
 rintro e w6 ⟨s5, ms5, b5, rfl, hS5, hF5, hb5, hK5, hT5⟩
 have hO6 : Old w w6 := below_turn H4.out.2.2 hT5 (by intro u hu; simp at hu; rcases hu with rfl | rfl | rfl | rfl; exact H4.out.1; exact H2.out.1; exact H2.out.2.1; exact H4.out.2.1) H4.out.2.2.size
 rw [show schgs [] [⟨1, false, some ⟨w4.heap.size, 0, none⟩, F, F, zs F⟩] = [(1, zs F)] from rfl] at hS5
 have hT := HN.out.1
 have hlf := HN.out.2.1
 have hrs := HN.out.2.2.1
 have hS0 := HN.out.2.2.2.1
 have hS1 := HN.out.2.2.2.2
 have hF2 := HF.out.1
 have hL2 := HF.out.2
 obtain ⟨T1, hT1⟩ : ∃ T1, T - F = T1 := ⟨_, rfl⟩
 obtain ⟨l1, hl1⟩ : ∃ l1, lf + 1 = l1 := ⟨_, rfl⟩
 have hb1 : l1 ≤ 11000 := by omega
 have hb2 : rs ≤ 11000 := by omega
 have hb3 : rs + L0 + F + 16 = T := by omega
 have hb4 : l1 + F + 15 = T := by omega
 have m1 : sload (schgs [(1, zs F)] [⟨2, false, some ⟨w6.heap.size, 0, none⟩, l1, l1, zs l1⟩]) = T + 1 := by
  rw [show schgs [(1, zs F)] [⟨2, false, some ⟨w6.heap.size, 0, none⟩, l1, l1, zs l1⟩] = [(1, zs F), (2, zs l1)] from rfl]
  show (zs F).length + 8 + ((zs l1).length + 8 + 0) = T + 1
  rw [zs_len, zs_len]; omega
 have hcs2 := chs_zs w6 2 l1 (by unfold wfI; decide) (by omega)
 obtain ⟨w7, hw7⟩ : ∃ w7, (w6.alloc (.cells (madeCells #[.int .u8 0] l1) 5)).alloc (.cells #[.int .i64 2, .bool false, .slice (some ⟨w6.heap.size, 0, none⟩) l1 l1] 34) = w7 := ⟨_, rfl⟩
 have hO7 : Old w6 w7 := by rw [← hw7]; exact ((Old.refl _).alloc _).alloc _
 rw [hw7] at hcs2
 have hS7 := hS5.below hO7
 have hcf := stcommit_full hS7.blk hS7.map _ 1 1 _ hcs2 (by omega) (by omega) (by simp [okC, zs_len]; omega) (by rw [m1, hT]; omega) (by rw [m1]; omega) (by simp) (fun q hq => by rw [List.mem_singleton] at hq; subst hq; simp [zs_len]; omega)
 have H6 := Lib.hid (And.intro hS7 (And.intro hF5 (And.intro (hK5.below hO7) (And.intro (Old.trans hO6 hO7) (And.intro hw7 (And.intro hb2 (And.intro hb3 hb4)))))))
 have e1 : (64 : Int) * (S : Int) = (T : Int) := by omega
 have e1w : IntKind.i64.wrap (T : Int) = (T : Int) := IntWalk.i64_in _ (by omega)
 have e2 : (T : Int) - (F : Int) = (T1 : Int) := by omega
 have e2w : IntKind.i64.wrap (T1 : Int) = (T1 : Int) := IntWalk.i64_in _ (by omega)
 have e3 : (T1 : Int) - 16 = (lf : Int) := by omega
 have e3w : IntKind.i64.wrap (lf : Int) = (lf : Int) := IntWalk.i64_in _ (by omega)
 have e4 : (lf : Int) - (L0 : Int) = (rs : Int) := by omega
 have e4w : IntKind.i64.wrap (rs : Int) = (rs : Int) := IntWalk.i64_in _ (by omega)
 have e5 : (lf : Int) + 1 = (l1 : Int) := by omega
 have e5w : IntKind.i64.wrap (l1 : Int) = (l1 : Int) := IntWalk.i64_in _ (by omega)
 have e6 : decide ((rs : Int) < 0) = false := decide_eq_false (by omega)
 have e7 : decide ((rs : Int) > 16384) = false := decide_eq_false (by omega)
 have e8 : decide ((l1 : Int) > 16384) = false := decide_eq_false (by omega)
 have hmk := Tryz.prog_make l1 (by omega) w6
 clear hcm hS5 hF5 hb5 hK5 hT5 hO6 hT hlf hrs hS0 hS1 hF2 hL2 hT1 hl1 hb1 hb2 hb3 hb4 m1 hcs2 hO7 hS7 hw7
 go_wp2_with fail
 rw [H6.out.2.2.2.2.1]
 refine hcf.mono ?_
 rintro e w8 ⟨rfl, hO8⟩
 have hS8 := H6.out.1.below hO8
 have m2 : sload (schgs [(1, zs F)] [⟨2, false, some ⟨w8.heap.size, 0, none⟩, rs, rs, zs rs⟩]) + L0 = T := by
  rw [show schgs [(1, zs F)] [⟨2, false, some ⟨w8.heap.size, 0, none⟩, rs, rs, zs rs⟩] = [(1, zs F), (2, zs rs)] from rfl]
  show (zs F).length + 8 + ((zs rs).length + 8 + 0) + L0 = T
  rw [zs_len, zs_len]; have := H6.out.2.2.2.2.2.2.1; omega
 have hcs3 := chs_zs w8 2 rs (by unfold wfI; decide) (by have := H6.out.2.2.2.2.2.1; omega)
 obtain ⟨w9, hw9⟩ : ∃ w9, (w8.alloc (.cells (madeCells #[.int .u8 0] rs) 5)).alloc (.cells #[.int .i64 2, .bool false, .slice (some ⟨w8.heap.size, 0, none⟩) rs rs] 34) = w9 := ⟨_, rfl⟩
 have hO9 : Old w8 w9 := by rw [← hw9]; exact ((Old.refl _).alloc _).alloc _
 rw [hw9] at hcs3
 have hcm := stcommit_live (hS8.below hO9) _ 1 1 _ hcs3 (by omega) (by omega) (by have := H6.out.2.2.2.2.2.1; simp [okC, zs_len]; omega) (by have := HN.out.1; omega) ((H6.out.2.2.1.below hO8).below hO9) (by omega) H6.out.2.1 (by omega) HN.out.2.2.2.1 (by have := HN.out.2.2.2.2; omega) (by simp) (fun q hq => by rw [List.mem_singleton] at hq; subst hq; have := H6.out.2.2.2.2.2.1; simp [zs_len]; omega)
 have hmk := Tryz.prog_make rs (by have := H6.out.2.2.2.2.2.1; omega) w8
 have H8 := Lib.hid (And.intro (Old.trans (Old.trans H6.out.2.2.2.1 hO8) hO9) (And.intro hw9 m2))
 clear hcf hO8 hS8 hcs3 hO9 hw9 m2
 go_wp2_with fail
 rw [H8.out.2.1]
 refine hcm.mono ?_
 rintro e w10 ⟨s6, ms6, b6, rfl, hS6, hF6, hb6, hK6, hT6⟩
 have hO10 : Old w w10 := below_turn H8.out.1 hT6 (by intro u hu; simp at hu; rcases hu with rfl | rfl | rfl | rfl; exact H4.out.1; exact H2.out.1; exact H2.out.2.1; exact H4.out.2.1) H8.out.1.size
 have hM3 : schgs [(1, zs F)] [⟨2, false, some ⟨w8.heap.size, 0, none⟩, rs, rs, zs rs⟩] = [(1, zs F), (2, zs rs)] := rfl
 rw [hM3] at hS6
 have hm3 := H8.out.2.2
 rw [hM3] at hm3
 obtain ⟨ld, hld⟩ : ∃ ld, sload [(1, zs F), (2, zs rs)] = ld := ⟨_, rfl⟩
 rw [hld] at hm3
 have hTb : T ≤ 20000 := by have := HN.out.1; have := HN.out.2.2.2.2; omega
 have hgt := Get_any x b6 _ _ _ _ 2 w10 hS6.blk hS6.map (by unfold wfI; decide) (by intro q hq; have h1 := HF.out.1; have h2 := H6.out.2.2.2.2.2.1; simp at hq; rcases hq with rfl | rfl <;> simp [zs_len] <;> omega)
 rw [show sget [(1, zs F), (2, zs rs)] 2 = some (zs rs) from rfl] at hgt
 have e9 : (T : Int) - (L0 : Int) = (ld : Int) := by omega
 have e9w : IntKind.i64.wrap (ld : Int) = (ld : Int) := IntWalk.i64_in _ (by omega)
 have hldb : ld ≤ 20000 := by omega
 have H10 := Lib.hid (And.intro hS6 (And.intro hO10 (And.intro hld hldb)))
 clear hcm hS6 hF6 hb6 hK6 hT6 hO10 hM3 hm3 hld hTb hldb hmk
 go_wp2_with fail
 refine hgt.mono ?_
 rintro e w11 ⟨A6, c6, rfl, hO6, hB6⟩
 simp only [Option.getD_some, zs_len, Option.isSome_some]
 have hlo := Load_any x b6 _ _ _ _ w11 (H10.out.1.below hB6).blk (H10.out.1.below hB6).map (by have h1 := H10.out.2.2.1; have h2 := H10.out.2.2.2; omega)
 rw [H10.out.2.2.1] at hlo
 have H11 := Lib.hid (Old.trans H10.out.2.1 hB6)
 clear hgt hO6 hB6
 go_wp2_with (go_at_call 16; refine hlo.mono ?_; rintro e w12 ⟨rfl, hO12⟩; have H12 := Lib.hid hO12; clear hO12)
 go_ret
 exact ⟨rfl, Old.trans H11.out H12.out⟩
end Go.Proofs.YtgjnmpjimhbfgaaGreatDoor
