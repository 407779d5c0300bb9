/-
  The function that DiskAll hands to a crash.
-/
import Derived.Test.YtpfijfflfgfojaaMatch
import Derived.Test.YtpfijfflfgfojaaNone
namespace Go.Proofs.Ytpfijfflfgfojaa
open Go.RowKit

/-- What stands while a crash asks. B0: the heap's size when it began. -/
structure AskI (bf ba br bo : Nat) (cs : Array Value) (p : RPl) (r : RDsk) (n : Nat) (kA : Option Addr) (kl : List Bool) (B0 k : Nat) (W : World) : Prop where
  fine : Blk W bf 4 #[.bool true]
  asked : ∃ a : Int, -1 ≤ a ∧ a < k ∧ Blk W ba 3 #[.int .i64 a]
  box : Blk W br 26 #[.pointer (some ⟨p.d, 0, none⟩)]
  op : Blk W bo 31 cs
  head : ∃ ch, Blk W p.d 38 ch ∧ ch[2]? = some (.slice (some ⟨p.gW, 0, none⟩) n n)
  wet : Blk W p.gW 4 (r.wet.map Value.bool).toArray
  keep : kl = [] ∨ ∃ b off, kA = some ⟨b, off, none⟩ ∧ b < B0 ∧ b ≠ bf ∧ b ≠ ba ∧ ∀ (j : Nat) (x : Bool), kl[j]? = some x → W.cell? ⟨b, off + j, none⟩ = some (.bool x)
  low : bf < B0 ∧ ba < B0 ∧ br < B0 ∧ bo < B0 ∧ p.d < B0 ∧ p.gW < B0 ∧ p.gW ≠ bf
theorem AskI.abide {bf ba br bo : Nat} {cs : Array Value} {p : RPl} {r : RDsk} {n : Nat} {kA : Option Addr} {kl : List Bool} {B0 k : Nat} {W W' : World} (h : AskI bf ba br bo cs p r n kA kl B0 k W) (hk : ∀ j, j < B0 → W'.heap[j]? = W.heap[j]?) : AskI bf ba br bo cs p r n kA kl B0 k W' := by
  obtain ⟨l1, l2, l3, l4, l5, l6, l7⟩ := h.low
  obtain ⟨a, ha1, ha2, ha3⟩ := h.asked
  obtain ⟨ch, hh1, hh2⟩ := h.head
  refine ⟨h.fine.keep (hk _ l1), ⟨a, ha1, ha2, ha3.keep (hk _ l2)⟩, h.box.keep (hk _ l3), h.op.keep (hk _ l4), ⟨ch, hh1.keep (hk _ l5), hh2⟩, h.wet.keep (hk _ l6), ?_, h.low⟩
  rcases h.keep with h | ⟨b, off, h1, h2, h4, h5, h3⟩
  · exact .inl h
  · exact .inr ⟨b, off, h1, h2, h4, h5, fun j x hx => (World.cell?_of_block (a := ⟨b, off + j, none⟩) (hk b h2)).trans (h3 j x hx)⟩
set_option maxHeartbeats 1000000 in
theorem ask_any (bf ba br bo : Nat) (cs : Array Value) (p : RPl) (r : RDsk) (n : Nat) (kA : Option Addr) (kc : Nat) (kl : List Bool) (B0 k : Nat) (W : World) (h : AskI bf ba br bo cs p r n kA kl B0 k W)
    (hc4 : cs[4]? = some (.slice kA kl.length kc)) (hk : k < n) (hn : n ≤ 65536) (hw : r.wet[k]? = some true) :
    Calls Try.prog 16 #[.int .i64 (k : Int), .pointer (some ⟨bf, 0, none⟩), .pointer (some ⟨ba, 0, none⟩), .pointer (some ⟨br, 0, none⟩), .pointer (some ⟨bo, 0, none⟩)] W
      fun e w' => e = .returned (.bool (kl.getD k false)) ∧ AskI bf ba br bo cs p r n kA kl B0 (k + 1) w' ∧ Turn [bf, ba] W w' := by
  have h0 := h
  obtain ⟨a, ha1, ha2, ha3⟩ := h.asked
  obtain ⟨ch, hh1, hh2⟩ := h.head
  have n1 : ba ≠ bf := ha3.ne_ h.fine (by decide)
  have n2 : br ≠ bf := h.box.ne_ h.fine (by decide)
  have n3 : br ≠ ba := h.box.ne_ ha3 (by decide)
  have n4 : bo ≠ bf := h.op.ne_ h.fine (by decide)
  have n5 : bo ≠ ba := h.op.ne_ ha3 (by decide)
  have n6 : p.d ≠ bf := hh1.ne_ h.fine (by decide)
  have n7 : p.d ≠ ba := hh1.ne_ ha3 (by decide)
  have n8 : p.gW ≠ ba := h.wet.ne_ ha3 (by decide)
  have n9 : p.gW ≠ bf := h.low.2.2.2.2.2.2
  have hT : Turn [bf, ba] W ((W.setCell ⟨bf, 0, none⟩ (.bool true)).setCell ⟨ba, 0, none⟩ (.int .i64 (k : Int))) := ((Turn.refl _ _).setCell (.inl (by simp)) _).setCell (.inl (by simp)) _
  have hA2 : AskI bf ba br bo cs p r n kA kl B0 (k + 1) ((W.setCell ⟨bf, 0, none⟩ (.bool true)).setCell ⟨ba, 0, none⟩ (.int .i64 (k : Int))) := by
    refine ⟨(h.fine.set_ 0 _).far (p := ⟨ba, 0, none⟩) (Ne.symm n1) _, ⟨k, by omega, by omega, (ha3.far (p := ⟨bf, 0, none⟩) n1 _).set_ 0 _⟩, h.box.turn hT (by simp; omega), h.op.turn hT (by simp; omega), ⟨ch, hh1.turn hT (by simp; omega), hh2⟩, h.wet.turn hT (by simp; omega), ?_, h.low⟩
    rcases h.keep with h | ⟨b, off, h1, h2, h4, h5, h3⟩
    · exact .inl h
    · exact .inr ⟨b, off, h1, h2, h4, h5, fun j x hx => (cell_far _ 0 (off + j) _ h5).trans ((cell_far _ 0 (off + j) _ h4).trans (h3 j x hx))⟩
  have c1 := h.fine.cell 0
  have c2 := ha3.cell 0
  have c3 := h.box.cell 0
  have c4 := h.op.cell 4
  have c5 := hh1.cell 2
  have c6 := h.wet.cell k
  have f1 := h.fine.frozen 0
  have f2 := (ha3.far (p := ⟨bf, 0, none⟩) n1 (.bool true)).frozen 0
  have c2' := (ha3.far (p := ⟨bf, 0, none⟩) n1 (.bool true)).cell 0
  have c4' : ((W.setCell ⟨bf, 0, none⟩ (.bool true)).setCell ⟨ba, 0, none⟩ (.int .i64 (k : Int))).cell? ⟨bo, 4, none⟩ = some (.slice kA kl.length kc) := by
    rw [cell_far _ 0 4 _ n5, cell_far _ 0 4 _ n4, c4, hc4]
  rw [hc4] at c4
  rw [hh2] at c5
  simp only [List.getElem?_toArray, List.getElem?_cons_zero, List.getElem?_map, hw, Option.map_some] at c1 c2 c3 c6 c2'
  have ki : (k : Int) < n := by omega
  have k0 : (0 : Int) ≤ k := by omega
  have ak : a < (k : Int) := ha2
  have k65 : (k : Int) ≤ 65536 := by omega
  have hgk := h.keep
  have HA := Lib.hid (And.intro hA2 hT)
  clear hA2 hT h h0 ha3 hh1 hh2 hw hc4 ha2
  rcases Nat.lt_or_ge k kl.length with hlt | hge
  · obtain ⟨x, hx⟩ : ∃ x, kl[k]? = some x := ⟨_, List.getElem?_eq_getElem hlt⟩
    rcases hgk with rfl | ⟨b, off, rfl, h2, h4, h5, h3⟩
    · simp at hlt
    have c7 := h3 k x hx
    have c7' : ((W.setCell ⟨bf, 0, none⟩ (.bool true)).setCell ⟨ba, 0, none⟩ (.int .i64 (k : Int))).cell? ⟨b, off + k, none⟩ = some (.bool x) := by
      rw [cell_far _ 0 _ _ h5, cell_far _ 0 _ _ h4, c7]
    have hli : (k : Int) < kl.length := by omega
    have e1 : kl.getD k false = x := by simp [List.getD, hx]
    rw [e1]
    clear h3 hx e1 h2 h4 h5 c7
    go_enter Try.func16, Try.ntmps16
    go_wp2
    go_ret
    exact ⟨rfl, HA.out.1, HA.out.2⟩
  · have e1 : kl.getD k false = false := by simp [List.getD, List.getElem?_eq_none hge]
    have hli : ¬ ((k : Int) < kl.length) := by omega
    have hli2 : ¬ (k < kl.length) := by omega
    rw [e1]
    clear e1 hgk
    go_enter Try.func16, Try.ntmps16
    go_wp2
    go_ret
    exact ⟨rfl, HA.out.1, HA.out.2⟩
theorem asksAll (bf ba br bo : Nat) (cs : Array Value) (p : RPl) (r : RDsk) (kA : Option Addr) (kc : Nat) (kl : List Bool) (B0 : Nat) (s : Dsk) (hm : Match s r) (hlw : r.wet.length = r.now.length) (hn : s.secs.length ≤ 65536)
    (hc4 : cs[4]? = some (.slice kA kl.length kc)) :
    Asks 16 #[.pointer (some ⟨bf, 0, none⟩), .pointer (some ⟨ba, 0, none⟩), .pointer (some ⟨br, 0, none⟩), .pointer (some ⟨bo, 0, none⟩)] s (fun i => kl.getD i false) B0 [bf, ba] (AskI bf ba br bo cs p r s.secs.length kA kl B0) where
  enters := fun args w => by kernel_rfl
  abide := fun k w1 w2 h hk => h.abide hk
  typed := fun k w1 h g hg => by
    obtain ⟨a, _, _, ha3⟩ := h.asked
    rcases List.mem_cons.1 hg with rfl | hg
    · exact ⟨_, _, h.fine, by decide⟩
    · simp at hg; subst hg; exact ⟨_, _, ha3, by decide⟩
  skip := fun k w1 hk hd h => by
    obtain ⟨a, ha1, ha2, ha3⟩ := h.asked
    exact ⟨h.fine, ⟨a, ha1, by omega, ha3⟩, h.box, h.op, h.head, h.wet, h.keep, h.low⟩
  ask := fun k w1 hk hd h => by
    have hkr : k < r.wet.length := by rw [hlw, ← hm.len]; exact hk
    have hw := hm.wet k _ _ (List.getElem?_eq_getElem hk) (List.getElem?_eq_getElem hkr)
    exact ask_any bf ba br bo cs p r s.secs.length kA kc kl B0 k w1 h hc4 hk hn (by rw [List.getElem?_eq_getElem hkr, ← hw, hd])
end Go.Proofs.Ytpfijfflfgfojaa
