/-
  Words of my own for memory, over no program: bytes as cells, a block known whole, what a call leaves as it was.
-/
import Derived.WalkKit
import Derived.WalkSpells
import Derived.WalkLawsBesides
import Derived.Lib.Hide
import Derived.Deep.QuietTactic
import Derived.BigQuiet
import Derived.Maps.AppendAt
import Derived.Deep.AppendLies
namespace Go.Proofs.YtgjnmpjimhbfgaaGreatDoor
set_option maxRecDepth 100000
open Go.RowKit
def zs (n : Nat) : List UInt8 := List.replicate n 0
theorem zs_len (n : Nat) : (zs n).length = n := List.length_replicate
def B (x : UInt8) : Value := .int .u8 (x.toNat : Int)
theorem map_one (l : List UInt8) : ∀ u ∈ l.map B, u.oneCell' = true := by
 intro u hu
 obtain ⟨x, _, rfl⟩ := List.mem_map.1 hu
 rfl
def At (w : World) (b off : Nat) (l : List UInt8) : Prop :=
 b < w.heap.size ∧ ∀ k x, l[k]? = some x → w.cell? ⟨b, off + k, none⟩ = some (B x)
def Rd (w : World) (A : Option Addr) (m c : Nat) (l : List UInt8) : Prop :=
 m = l.length ∧ m ≤ c ∧ c ≤ maxLen ∧ ((A = none ∧ c = 0) ∨ ∃ b off, A = some ⟨b, off, none⟩ ∧ At w b off l)
section
variable {w w' : World} {m c b off : Nat} {A : Option Addr} {l : List UInt8}
theorem At.cell (h : At w b off l) {k : Nat} (hk : k < l.length) : w.cell? ⟨b, off + k, none⟩ = some (B l[k]) :=
 h.2 k _ (List.getElem?_eq_getElem hk)
theorem At.keep (h : At w b off l) (hs : w.heap.size ≤ w'.heap.size) (hk : w'.heap[b]? = w.heap[b]?) : At w' b off l :=
 ⟨Nat.lt_of_lt_of_le h.1 hs, fun k x hx => (World.cell?_of_block (a := ⟨b, off + k, none⟩) hk).trans (h.2 k x hx)⟩
theorem At.drop (h : At w b off l) (k : Nat) : At w b (off + k) (l.drop k) :=
 ⟨h.1, fun j x hx => by rw [Nat.add_assoc]; exact h.2 (k + j) x (by rw [← hx, List.getElem?_drop])⟩
theorem At.take (h : At w b off l) (k : Nat) : At w b off (l.take k) :=
 ⟨h.1, fun j x hx => h.2 j x (by rw [List.getElem?_take] at hx; split at hx <;> simp_all)⟩
theorem At.adds (h : At w b off l) : ∀ (j : Nat) (u : Value), (l.map B)[j]? = some u → w.cell? ((⟨b, off, none⟩ : Addr).add j) = some u := by
 intro j u hu
 rw [List.getElem?_map] at hu
 cases hx : l[j]? with
 | none => rw [hx] at hu; cases hu
 | some x =>
  rw [hx] at hu
  cases hu
  have := h.2 j x hx
  unfold Addr.add
  split
  ·simpa [*] using this
  ·exact this
theorem Rd.nil (w : World) : Rd w none 0 0 [] := ⟨rfl, Nat.le_refl _, Nat.zero_le _, .inl ⟨rfl, rfl⟩⟩
theorem Rd.keep (h : Rd w A m c l) (hs : w.heap.size ≤ w'.heap.size) (hk : ∀ ad, A = some ad → w'.heap[ad.block]? = w.heap[ad.block]?) : Rd w' A m c l := by
 obtain ⟨h1, h2, h3, h4⟩ := h
 refine ⟨h1, h2, h3, ?_⟩
 rcases h4 with h4 | ⟨b, off, rfl, h4⟩
 ·exact .inl h4
 ·exact .inr ⟨b, off, rfl, h4.keep hs (hk _ rfl)⟩
theorem Rd.lt (h : Rd w A m c l) (ad : Addr) (ha : A = some ad) : ad.block < w.heap.size := by
 obtain ⟨_, _, _, ⟨rfl, _⟩ | ⟨b, off, rfl, h4⟩⟩ := h
 ·cases ha
 ·cases ha; exact h4.1
theorem Rd.below (h : Rd w A m c l) (hb : Below w.heap.size w w') : Rd w' A m c l := h.keep hb.size fun ad ha => hb.block _ (h.lt ad ha)
theorem Rd.addr (h : Rd w A m c l) (hm : 0 < m) : ∃ b off, A = some ⟨b, off, none⟩ ∧ At w b off l := by
 obtain ⟨h1, h2, h3, ⟨rfl, hc⟩ | h4⟩ := h
 ·omega
 ·exact h4
theorem Rd.cut (h : Rd w A m c l) {k : Nat} (hk : k ≤ m) : Rd w (if c = k then A else A.map (·.add k)) (m - k) (c - k) (l.drop k) := by
 obtain ⟨h1, h2, h3, h4⟩ := h
 refine ⟨by simp [h1], by omega, by omega, ?_⟩
 rcases h4 with ⟨rfl, hc⟩ | ⟨b, off, rfl, h4⟩
 ·left; subst hc; simp
 ·right
  split
  ·have : l.drop k = [] := List.drop_eq_nil_of_le (by omega)
   rw [this]
   exact ⟨b, off, rfl, h4.1, by simp⟩
  ·refine ⟨b, off + k, ?_, h4.drop k⟩
   unfold Addr.add; simp only [Option.map_some]; split <;> simp_all
theorem Rd.front (h : Rd w A m c l) {k : Nat} (hk : k ≤ m) : Rd w A k c (l.take k) := by
 obtain ⟨h1, h2, h3, h4⟩ := h
 refine ⟨by simp; omega, by omega, h3, ?_⟩
 rcases h4 with h4 | ⟨b, off, rfl, h4⟩
 ·exact .inl h4
 ·exact .inr ⟨b, off, rfl, h4.take k⟩
end
def Blk (w : World) (g : Nat) (t : TypeId) (cs : Array Value) : Prop := w.heap[g]? = some (.cells cs t (0, 0))
section
variable {w w' : World} {g : Nat} {t : TypeId} {cs : Array Value}
theorem Blk.lt (h : Blk w g t cs) : g < w.heap.size := by
 rcases Nat.lt_or_ge g w.heap.size with hlt | hge
 ·exact hlt
 ·unfold Blk at h; rw [Array.getElem?_eq_none hge] at h; cases h
theorem Blk.cell (h : Blk w g t cs) (i : Nat) : w.cell? ⟨g, i, none⟩ = cs[i]? := by
 have := cell_of_row w g i cs t (0, 0) h
 simpa using this
theorem Blk.frozen (h : Blk w g t cs) (i : Nat) : w.frozen? ⟨g, i, none⟩ = false := by
 unfold Blk at h
 simp [World.frozen?, h]
theorem Blk.new (w : World) (t : TypeId) (cs : Array Value) : Blk (w.alloc (.cells cs t)) w.heap.size t cs := heap_alloc_new w _
theorem Blk.drew (h : Blk w g t cs) : Blk w.drew g t cs := h
theorem Blk.drewN (h : Blk w g t cs) (n : Nat) : Blk (w.drewN n) g t cs := h
theorem Blk.alloc (h : Blk w g t cs) (o : Obj) : Blk (w.alloc o) g t cs := (Below.heap_alloc w o g h.lt).trans h
theorem Blk.set_ (h : Blk w g t cs) (i : Nat) (u : Value) : Blk (w.setCell ⟨g, i, none⟩ u) g t (cs.setIfInBounds i u) := by
 unfold Blk at h ⊢
 simp [World.setCell, Array.getElem?_modify, h]
theorem Blk.far (h : Blk w g t cs) {p : Addr} (hp : g ≠ p.block) (u : Value) : Blk (w.setCell p u) g t cs := (Below.heap_setCell w p u g hp).trans h
theorem Blk.keep (h : Blk w g t cs) (hk : w'.heap[g]? = w.heap[g]?) : Blk w' g t cs := hk.trans h
theorem Blk.ne_ {g' : Nat} {t' : TypeId} {cs' : Array Value} (h : Blk w g t cs) (h' : Blk w g' t' cs') (hne : t ≠ t') : g ≠ g' := by
 rintro rfl
 unfold Blk at h h'
 rw [h] at h'
 injection h' with h'
 injection h' with _ ht
 exact hne ht
end
theorem cell_far (w : World) {d L : Nat} (i j : Nat) (v : Value) (h : d ≠ L) : (w.setCell ⟨L, i, none⟩ v).cell? ⟨d, j, none⟩ = w.cell? ⟨d, j, none⟩ :=
 World.cell?_setCell_other w _ _ _ (fun e => h (by cases e; rfl))
theorem cell_off (w : World) {L : Nat} (i j : Nat) (v : Value) (h : j ≠ i) : (w.setCell ⟨L, i, none⟩ v).cell? ⟨L, j, none⟩ = w.cell? ⟨L, j, none⟩ :=
 World.cell?_setCell_other w _ _ _ (fun e => h (by cases e; rfl))
structure Turn (S : List Nat) (w w' : World) : Prop where
 os : w'.os = w.os
 tape : w'.tape = w.tape
 output : w'.output = w.output
 size : w.heap.size ≤ w'.heap.size
 block : ∀ k, k < w.heap.size → k ∉ S → w'.heap[k]? = w.heap[k]?
section
variable {w w' w'' : World} {S : List Nat}
theorem Turn.refl (S : List Nat) (w : World) : Turn S w w := ⟨rfl, rfl, rfl, Nat.le_refl _, fun _ _ _ => rfl⟩
theorem Turn.of_below (S : List Nat) (h : Below w.heap.size w w') : Turn S w w' := ⟨h.os, h.tape, h.output, h.size, fun k hk _ => h.block k hk⟩
theorem Turn.below (h : Turn [] w w') : Below w.heap.size w w' := ⟨h.os, h.tape, h.output, h.size, fun k hk => h.block k hk (by simp)⟩
theorem Turn.trans (h : Turn S w w') {S' : List Nat} (k : Turn S' w' w'') (hs : ∀ x ∈ S', x ∈ S ∨ w.heap.size ≤ x) : Turn S w w'' :=
 ⟨k.os.trans h.os, k.tape.trans h.tape, k.output.trans h.output, Nat.le_trans h.size k.size, fun i hi hn =>
  (k.block i (Nat.lt_of_lt_of_le hi h.size) (fun hm => (hs i hm).elim hn (fun h1 => by omega))).trans (h.block i hi hn)⟩
theorem Turn.drewN (h : Turn S w w') (n : Nat) : Turn S w (w'.drewN n) := ⟨h.os, h.tape, h.output, h.size, h.block⟩
theorem Turn.drew (h : Turn S w w') : Turn S w w'.drew := ⟨h.os, h.tape, h.output, h.size, h.block⟩
theorem Turn.alloc (h : Turn S w w') (o : Obj) : Turn S w (w'.alloc o) :=
 ⟨h.os, h.tape, h.output, Nat.le_trans h.size (by simp), fun i hi hne => (Below.heap_alloc w' o i (Nat.lt_of_lt_of_le hi h.size)).trans (h.block i hi hne)⟩
theorem Turn.setCell (h : Turn S w w') {p : Addr} (hp : p.block ∈ S ∨ w.heap.size ≤ p.block) (u : Value) : Turn S w (w'.setCell p u) :=
 ⟨h.os, h.tape, h.output, by simpa [World.setCell] using h.size, fun i hi hne => (Below.heap_setCell w' p u i (by
  rintro rfl
  rcases hp with hp | hp
  ·exact hne hp
  ·omega)).trans (h.block i hi hne)⟩
theorem Turn.more (h : Turn S w w') {S' : List Nat} (hs : ∀ x ∈ S, x ∈ S') : Turn S' w w' := ⟨h.os, h.tape, h.output, h.size, fun k hk hn => h.block k hk (fun hm => hn (hs k hm))⟩
theorem Turn.grown (h : Turn S w w') {row : Option Nat} (hg : w'.grownBy w'' row) (hr : ∀ k, row = some k → k ∈ S ∨ w.heap.size ≤ k) : Turn S w w'' :=
 ⟨hg.os.trans h.os, hg.tape.trans h.tape, hg.output.trans h.output, Nat.le_trans h.size hg.size, fun i hi hn =>
  (hg.block i (Nat.lt_of_lt_of_le hi h.size) (fun e => (hr i e.symm).elim hn (fun h1 => by omega))).trans (h.block i hi hn)⟩
end
def Own (w : World) (base : Nat) (v : Value) (l : List UInt8) : Prop := w.ownsRow base 5 1 v l.length (l.map B)
theorem Own.shape {w : World} {base : Nat} {v : Value} {l : List UInt8} (h : Own w base v l) :
  ∃ A c, v = .slice A l.length c ∧ Rd w A l.length c l ∧ (∀ ad, A = some ad → base ≤ ad.block) := by
 obtain ⟨h1, h2⟩ := h
 rcases h2 with ⟨rfl, h2⟩ | ⟨g, cap, cur, rfl, hg, hh, hnc, hm, hcur, hx⟩
 ·obtain rfl : l = [] := by simpa using h2
  exact ⟨none, 0, rfl, Rd.nil _, fun _ h => by cases h⟩
 ·refine ⟨some ⟨g, 0, none⟩, cap, rfl, ⟨rfl, hnc, hm, .inr ⟨g, 0, rfl, Blk.lt hh, fun k x hk => ?_⟩⟩, fun ad ha => by cases ha; exact hg⟩
  rw [cell_of_row w g (0 + k) cur _ _ hh]
  have hk' : k < l.length := by
   rcases Nat.lt_or_ge k l.length with h | h
   ·exact h
   ·rw [List.getElem?_eq_none h] at hk; cases hk
  have : (l.map B)[k]? = some (B x) := by simp [hk]
  rw [← hx, Nat.mul_one, List.getElem?_take, if_pos hk'] at this
  simpa using this
theorem Rd.turn {w w' : World} {S : List Nat} {A : Option Addr} {m c : Nat} {l : List UInt8} (h : Rd w A m c l) (ht : Turn S w w') (hn : ∀ ad, A = some ad → ad.block ∉ S) : Rd w' A m c l :=
 h.keep ht.size fun ad ha => ht.block _ (h.lt ad ha) (hn ad ha)
theorem Blk.turn {w w' : World} {S : List Nat} {g : Nat} {t : TypeId} {cs : Array Value} (h : Blk w g t cs) (ht : Turn S w w') (hn : g ∉ S) : Blk w' g t cs :=
 h.keep (ht.block _ h.lt hn)
theorem Blk.below {w w' : World} {g : Nat} {t : TypeId} {cs : Array Value} (h : Blk w g t cs) (ht : Below w.heap.size w w') : Blk w' g t cs :=
 h.keep (ht.block _ h.lt)
theorem Own.keep {w w' : World} {base : Nat} {v : Value} {l : List UInt8} (h : Own w base v l) (hk : ∀ g, v.ownBlock = some g → w'.heap[g]? = w.heap[g]?) : Own w' base v l := by
 obtain ⟨h1, h2⟩ := h
 refine ⟨h1, ?_⟩
 rcases h2 with h2 | ⟨g, cap, cur, rfl, hg, hh, r⟩
 ·exact .inl h2
 ·exact .inr ⟨g, cap, cur, rfl, hg, (hk g rfl).trans hh, r⟩
theorem Own.lt {w : World} {base : Nat} {v : Value} {l : List UInt8} (h : Own w base v l) {g : Nat} (hg : v.ownBlock = some g) : base ≤ g ∧ g < w.heap.size := World.ownsRow.lt h g hg
theorem Own.turn {w w' : World} {S : List Nat} {base : Nat} {v : Value} {l : List UInt8} (h : Own w base v l) (ht : Turn S w w') (hn : ∀ g, v.ownBlock = some g → g ∉ S) : Own w' base v l :=
 h.keep fun g hg => ht.block g (h.lt hg).2 (hn g hg)
theorem Own.below {w w' : World} {base : Nat} {v : Value} {l : List UInt8} (h : Own w base v l) (ht : Below w.heap.size w w') : Own w' base v l :=
 h.keep fun g hg => ht.block g (h.lt hg).2
theorem Own.mono {w : World} {base base' : Nat} {v : Value} {l : List UInt8} (h : Own w base v l) (hb : base' ≤ base) : Own w base' v l := by
 obtain ⟨h1, h2⟩ := h
 refine ⟨h1, ?_⟩
 rcases h2 with h2 | ⟨g, cap, cur, rfl, hg, r⟩
 ·exact .inl h2
 ·exact .inr ⟨g, cap, cur, rfl, Nat.le_trans hb hg, r⟩
theorem Own.ne {w : World} {base : Nat} {v : Value} {l : List UInt8} (h : Own w base v l) {g : Nat} {t : TypeId} {cs : Array Value} (hg : Blk w g t cs) (ht : t ≠ 5) : v.ownBlock ≠ some g := by
 obtain ⟨h1, h2⟩ := h
 rcases h2 with ⟨rfl, _⟩ | ⟨g', cap, cur, rfl, _, hh, r⟩
 ·simp [Value.ownBlock]
 ·intro e
  cases e
  exact Blk.ne_ (t := 5) (t' := t) hh hg (Ne.symm ht) rfl
theorem madeCells_one (z : Value) (n : Nat) : madeCells #[z] n = Array.replicate n z := by
 apply Array.ext
 ·simp [madeCells]
 ·intro i h1 h2
  simp [madeCells, Nat.mod_one]
theorem Own.made (w : World) (n : Nat) (hn : n ≤ maxLen) : Own (w.alloc (.cells (madeCells #[.int .u8 0] n) 5)) w.heap.size (.slice (some ⟨w.heap.size, 0, none⟩) n n) (zs n) := by
 unfold zs
 refine ⟨by simp, .inr ⟨w.heap.size, n, _, by simp, Nat.le_refl _, heap_alloc_new w _, by simp, hn, by simp [size_madeCells], ?_⟩⟩
 rw [madeCells_one]
 simp [B]
theorem Own.form {w : World} {base : Nat} {v : Value} {l : List UInt8} (h : Own w base v l) (hn : v ≠ .slice none 0 0) :
  ∃ g c, v = .slice (some ⟨g, 0, none⟩) l.length c := by
 obtain ⟨h1, h2⟩ := h
 rcases h2 with ⟨rfl, _⟩ | ⟨g', cap, cur, rfl, _⟩
 ·exact absurd rfl hn
 ·exact ⟨_, _, rfl⟩
theorem Own.at_ {w : World} {base g n c : Nat} {l : List UInt8} (h : Own w base (.slice (some ⟨g, 0, none⟩) n c) l) : At w g 0 l := by
 obtain ⟨A, c', heq, hrd, _⟩ := h.shape
 cases heq
 obtain ⟨_, _, _, ⟨hA, _⟩ | ⟨b, off, hA, hat⟩⟩ := hrd
 ·cases hA
 ·cases hA; exact hat
theorem slice_ne_nil (a : Addr) (n c : Nat) : Value.slice (some a) n c ≠ .slice none 0 0 := by intro h; cases h
def NoRow (w : World) (g : Nat) : Prop := ∀ cs, w.heap[g]? ≠ some (.cells cs 5 (0, 0))
theorem Blk.noRow {w : World} {g : Nat} {t : TypeId} {cs : Array Value} (h : Blk w g t cs) (ht : t ≠ 5) : NoRow w g := by
 intro cs' h'
 unfold Blk at h
 rw [h] at h'
 injection h' with h'
 injection h' with _ h'
 exact ht h'
theorem noRow_loop {w : World} {g : Nat} {r : Loop} (h : w.heap[g]? = some (.loop r)) : NoRow w g := by
 intro cs h'
 rw [h] at h'
 cases h'
theorem Own.notin {w : World} {base : Nat} {v : Value} {l : List UInt8} (h : Own w base v l) {g : Nat} (hg : NoRow w g) : v.ownBlock ≠ some g := by
 obtain ⟨h1, h2⟩ := h
 rcases h2 with ⟨rfl, _⟩ | ⟨g', cap, cur, rfl, _, hh, r⟩
 ·simp [Value.ownBlock]
 ·intro e
  cases e
  exact hg _ hh
theorem cell_turn {w w' : World} {S : List Nat} {b o : Nat} {v : Value} (h : w.cell? ⟨b, o, none⟩ = some v) (ht : Turn S w w') (hn : b ∉ S) : w'.cell? ⟨b, o, none⟩ = some v :=
 (World.cell?_of_block (a := ⟨b, o, none⟩) (ht.block b (World.block_lt_of_cell? w ⟨b, o, none⟩ h) hn)).trans h
theorem below_turn {B : Nat} {w W1 W2 : World} {S : List Nat} (h : Below B w W1) (ht : Turn S W1 W2) (hS : ∀ t ∈ S, B ≤ t) (hB : B ≤ W1.heap.size) : Below B w W2 :=
 h.trans ⟨ht.os, ht.tape, ht.output, ht.size, fun k hk => ht.block k (by omega) (fun hm => by have := hS k hm; omega)⟩
def Byt (w : World) (v : Value) : Option (List UInt8) → Prop
 | none => v = .slice none 0 0
 | some l => Own w 0 v l ∧ v ≠ .slice none 0 0
theorem Byt.turn {w w' : World} {S : List Nat} {v : Value} {o : Option (List UInt8)} (h : Byt w v o) (ht : Turn S w w') (hn : ∀ g, v.ownBlock = some g → g ∉ S) : Byt w' v o := by
 cases o with
 | none => exact h
 | some l => exact ⟨h.1.turn ht hn, h.2⟩
theorem Byt.below {w w' : World} {v : Value} {o : Option (List UInt8)} (h : Byt w v o) (ht : Below w.heap.size w w') : Byt w' v o := by
 cases o with
 | none => exact h
 | some l => exact ⟨h.1.below ht, h.2⟩
theorem Byt.ne {w : World} {v : Value} {o : Option (List UInt8)} (h : Byt w v o) {g : Nat} {t : TypeId} {cs : Array Value} (hg : Blk w g t cs) (ht : t ≠ 5) : v.ownBlock ≠ some g := by
 cases o with
 | none => cases h; simp [Value.ownBlock]
 | some l => exact h.1.ne hg ht
theorem Byt.slice {w : World} {v : Value} {o : Option (List UInt8)} (h : Byt w v o) : ∃ A n c, v = .slice A n c := by
 cases o with
 | none => exact ⟨_, _, _, h⟩
 | some l => obtain ⟨A, c, rfl, _⟩ := h.1.shape; exact ⟨_, _, _, rfl⟩
theorem Byt.notin {w : World} {v : Value} {o : Option (List UInt8)} (h : Byt w v o) {g : Nat} (hg : NoRow w g) : v.ownBlock ≠ some g := by
 cases o with
 | none => cases h; simp [Value.ownBlock]
 | some l => exact h.1.notin hg
theorem Byt.some_form {w : World} {v : Value} {l : List UInt8} (h : Byt w v (some l)) : ∃ b c, v = .slice (some ⟨b, 0, none⟩) l.length c ∧ At w b 0 l := by
 obtain ⟨⟨h1, h2⟩, h3⟩ := h
 rcases h2 with ⟨rfl, _⟩ | ⟨g, cap, cur, rfl, hg, hh, hnc, hm, hcur, hx⟩
 ·exact absurd rfl h3
 ·refine ⟨g, cap, rfl, Blk.lt hh, fun k x hk => ?_⟩
  rw [cell_of_row w g (0 + k) cur _ _ hh]
  have hk' : k < l.length := by
   rcases Nat.lt_or_ge k l.length with h | h
   ·exact h
   ·rw [List.getElem?_eq_none h] at hk; cases hk
  have : (l.map B)[k]? = some (B x) := by simp [hk]
  rw [← hx, Nat.mul_one, List.getElem?_take, if_pos hk'] at this
  simpa using this
def Row (w : World) (g : Nat) (t : TypeId) (n c : Nat) (xs : List Value) : Prop :=
 xs.length = n ∧ n ≤ c ∧ c ≤ maxLen ∧ ∃ cur, Blk w g t cur ∧ cur.size = c ∧ cur.toList.take n = xs
section
variable {w w' : World} {g n c : Nat} {t : TypeId} {xs : List Value}
theorem Row.lt (h : Row w g t n c xs) : g < w.heap.size := let ⟨_, _, _, _, hb, _⟩ := h; hb.lt
theorem Row.frozen (h : Row w g t n c xs) (i : Nat) : w.frozen? ⟨g, i, none⟩ = false := let ⟨_, _, _, _, hb, _⟩ := h; hb.frozen i
theorem Row.set_ (h : Row w g t n c xs) (i : Nat) (v : Value) : Row (w.setCell ⟨g, i, none⟩ v) g t n c (xs.set i v) := by
 obtain ⟨h1, h2, h3, cur, hb, hs, rfl⟩ := h
 refine ⟨by simpa using h1, h2, h3, _, hb.set_ i v, by simp [hs], ?_⟩
 rw [Array.toList_setIfInBounds, List.take_set]
theorem Row.keep (h : Row w g t n c xs) (hk : w'.heap[g]? = w.heap[g]?) : Row w' g t n c xs := let ⟨a, b, c, cur, hb, r⟩ := h; ⟨a, b, c, cur, hb.keep hk, r⟩
theorem Row.turn {S : List Nat} (h : Row w g t n c xs) (ht : Turn S w w') (hn : g ∉ S) : Row w' g t n c xs := h.keep (ht.block _ h.lt hn)
theorem Row.below (h : Row w g t n c xs) (ht : Below w.heap.size w w') : Row w' g t n c xs := h.keep (ht.block _ h.lt)
theorem Row.noRow (h : Row w g t n c xs) (ht : t ≠ 5) : NoRow w g := let ⟨_, _, _, _, hb, _⟩ := h; hb.noRow ht
theorem Row.ne_ {g' : Nat} {t' : TypeId} {cs' : Array Value} (h : Row w g t n c xs) (h' : Blk w g' t' cs') (hne : t ≠ t') : g ≠ g' := let ⟨_, _, _, _, hb, _⟩ := h; hb.ne_ h' hne
theorem Row.of_own {base : Nat} (h : w.ownsRow base t 1 (.slice (some ⟨g, 0, none⟩) n c) n xs) : Row w g t n c xs ∧ base ≤ g := by
 obtain ⟨h1, h2⟩ := h
 rcases h2 with ⟨h2, _⟩ | ⟨g', cap, cur, he, hg, hh, hnc, hm, hcur, hx⟩
 ·cases h2
 ·cases he
  exact ⟨⟨by simpa using h1, hnc, hm, cur, hh, by simpa using hcur, by simpa using hx⟩, hg⟩
theorem Row.own (h : Row w g t n c xs) {base : Nat} (hg : base ≤ g) : w.ownsRow base t 1 (.slice (some ⟨g, 0, none⟩) n c) n xs := by
 obtain ⟨h1, h2, h3, cur, hb, hs, hx⟩ := h
 exact ⟨by simpa using h1, .inr ⟨g, c, cur, rfl, hg, hb, h2, h3, by simpa using hs, by simpa using hx⟩⟩
end
end Go.Proofs.YtgjnmpjimhbfgaaGreatDoor
