/-
  copy into the state of AES; mix.
-/
import Derived.Test.YtgkkafkdgmdihaaAesS
namespace Go.Proofs.Ytgkkafkdgmdihaa
open Go.RowKit

theorem op_copySt {o : Oper} {a : Act} {w : World} {K : Act → World → Prop} {Q : Exit → Act → World → Prop} (d s : Operand)
    (ho : o.op = .call { callee := .builtin .copy, args := #[d, s], argTypes := #[22, 22] })
    (g off dl dc : Nat) (l : List UInt8) (hst : St w g l) (hd : a.eval d = .slice (some ⟨g, off, none⟩) dl dc) (hoff : off + dl ≤ 16)
    (A : Option Addr) (m c : Nat) (l2 : List UInt8) (hs : a.eval s = .slice A m c) (hrd : Rd w A m c l2) (hm : 0 < m) (hdl : 0 < dl)
    (h : ∀ w', St w' g (splice l off (l2.take dl)) → Turn [g] w w' → K (a.put o.dst (goInt ((min m dl : Nat) : Int))) w') :
    Oper.wp Try.prog o a w K Q := by
  obtain ⟨i0, hi, hz0, hz1, hz2⟩ := info_parts Try.infoU8
  have hsz : (Try.prog.info? 5).map (·.size) = some 1 := by rw [hi]; simp [hz1]
  obtain ⟨hl16, hh⟩ := hst
  have hrd' := hrd
  obtain ⟨h1, h2, h3, _⟩ := hrd
  obtain ⟨b, so, rfl, h4⟩ := hrd'.addr hm
  have hlen : (l2.take dl).length = Nat.min m dl := by rw [List.length_take, ← h1]; exact Nat.min_comm _ _
  have hrun := run_copy_row (P := Try.prog) w 22 22 o.type 5 g off dl dc ⟨b, so, none⟩ m c (l.map B).toArray 45 ((l2.take dl).map B) Try.underlying22 hsz hh (by simpa using hlen)
    (fun j v hv => (h4.take dl).adds j v hv) (by rw [List.length_map, hlen]; have : Nat.min m dl ≤ dl := Nat.min_le_right _ _; simp; omega) (map_one _)
  unfold Oper.wp
  simp only [execOp, ho, resolve, invoke, builtin, Sem.run_bind, Sem.run_pure, Result.andThen_ok, List.map_toArray, List.map_cons, List.map_nil, hs, hd, hrun]
  have hgo : goInt (((l2.take dl).map B).length : Nat) = goInt ((min m dl : Nat) : Int) := by rw [List.length_map, hlen]
  rw [hgo]
  have hk : (l2.take dl).length ≤ dl := by rw [hlen]; exact Nat.min_le_right _ _
  refine h _ ⟨?_, ?_⟩ ?_
  · rw [length_splice _ _ _ (by omega)]; exact hl16
  · have := setRow_heap w g (l.map B).toArray ((l.map B).toArray.toList.take off ++ (l2.take dl).map B ++ (l.map B).toArray.toList.drop (off + ((l2.take dl).map B).length)).toArray _ _ hh
    unfold Blk
    rw [this]
    congr 2
    unfold splice
    simp [List.map_take, List.map_drop]
  · exact ⟨rfl, rfl, rfl, by simp [World.setRow], fun k hk' hne => setRow_other w g k _ (fun e => hne (by simp [e]))⟩
theorem wp_copySt {ops : Array Oper} {rest : List Oper} {o : Oper} {a : Act} {w : World} {Q : Exit → Act → World → Prop} (hgd : o.guard = none) (d s : Operand)
    (ho : o.op = .call { callee := .builtin .copy, args := #[d, s], argTypes := #[22, 22] })
    (g off dl dc : Nat) (l : List UInt8) (hst : St w g l) (hd : a.eval d = .slice (some ⟨g, off, none⟩) dl dc) (hoff : off + dl ≤ 16)
    (A : Option Addr) (m c : Nat) (l2 : List UInt8) (hs : a.eval s = .slice A m c) (hrd : Rd w A m c l2) (hm : 0 < m) (hdl : 0 < dl)
    (h : ∀ w', St w' g (splice l off (l2.take dl)) → Turn [g] w w' → wpList Try.prog ops Q rest (a.put o.dst (goInt ((min m dl : Nat) : Int))) w') :
    wpList Try.prog ops Q (o :: rest) a w :=
  wpList_plain hgd fun _ hK => op_copySt d s ho g off dl dc l hst hd hoff A m c l2 hs hrd hm hdl fun w' h1 h2 => hK _ _ (h w' h1 h2)

/-- Four bytes in a variable. -/
def St4 (W : World) (b : Nat) (l : List UInt8) : Prop := l.length = 4 ∧ Blk W b 43 (l.map B).toArray
theorem St4.cell {W : World} {b : Nat} {l : List UInt8} (h : St4 W b l) (i : Nat) (x : UInt8) (hx : l[i]? = some x) : W.cell? ⟨b, i, none⟩ = some (B x) := by
  rw [h.2.cell, List.getElem?_toArray, List.getElem?_map, hx]; rfl
theorem St4.frozen {W : World} {b : Nat} {l : List UInt8} (h : St4 W b l) (i : Nat) : W.frozen? ⟨b, i, none⟩ = false := h.2.frozen i
theorem St4.set_ {W : World} {b : Nat} {l : List UInt8} (h : St4 W b l) (i : Nat) (x : UInt8) : St4 (W.setCell ⟨b, i, none⟩ (B x)) b (l.set i x) := by
  refine ⟨by rw [List.length_set]; exact h.1, ?_⟩
  have := h.2.set_ i (B x)
  rwa [List.setIfInBounds_toArray, ← List.map_set] at this
theorem St4.drew {W : World} {b : Nat} {l : List UInt8} (h : St4 W b l) : St4 W.drew b l := h
theorem St4.turn {w w' : World} {S : List Nat} {b : Nat} {l : List UInt8} (h : St4 w b l) (ht : Turn S w w') (hn : b ∉ S) : St4 w' b l := ⟨h.1, h.2.turn ht hn⟩
theorem St4.alloc_ {W : World} {b : Nat} {l : List UInt8} (h : St4 W b l) (o : Obj) : St4 (W.alloc o) b l := ⟨h.1, h.2.alloc o⟩
theorem St4.rd {W : World} {b : Nat} {l : List UInt8} (h : St4 W b l) : Rd W (some ⟨b, 0, none⟩) 4 4 l :=
  ⟨h.1.symm, Nat.le_refl _, by unfold maxLen; omega, .inr ⟨b, 0, rfl, h.2.lt, fun k x hx => by rw [Nat.zero_add]; exact h.cell k x hx⟩⟩
theorem St.rd {W : World} {b : Nat} {l : List UInt8} (h : St W b l) : Rd W (some ⟨b, 0, none⟩) 16 16 l :=
  ⟨h.1.symm, Nat.le_refl _, by unfold maxLen; omega, .inr ⟨b, 0, rfl, h.2.lt, fun k x hx => by rw [Nat.zero_add]; exact h.cell k x hx⟩⟩
theorem at4 (l : List UInt8) (h : l.length = 4) (j : Nat) (hj : j < 4) : ∃ x, l[j]? = some x := ⟨_, List.getElem?_eq_getElem (by omega)⟩

/-- A byte of a mixed column, from its first j parts. -/
def mixB (l fs : List UInt8) (col i : Nat) : Nat → UInt8
  | 0 => 0
  | j + 1 => mixB l fs col i j ^^^ gm (l.getD (col + j) 0) (fs.getD ((j + 4 - i) % 4) 0)
def mixC (l fs : List UInt8) (col : Nat) : List UInt8 := [mixB l fs col 0 4, mixB l fs col 1 4, mixB l fs col 2 4, mixB l fs col 3 4]
theorem mixC_at (l fs : List UInt8) (col i : Nat) (h : i < 4) : (mixC l fs col)[i]? = some (mixB l fs col i 4) := by
  rcases i with _ | _ | _ | _ | i
  · rfl
  · rfl
  · rfl
  · rfl
  · omega
/-- The state of which k columns are mixed. -/
def mixN (l fs : List UInt8) : Nat → List UInt8
  | 0 => l
  | k + 1 => splice (mixN l fs k) (4 * k) (mixC (mixN l fs k) fs (4 * k))
theorem mixN_len (l fs : List UInt8) (h : l.length = 16) (k : Nat) (hk : k ≤ 4) : (mixN l fs k).length = 16 := by
  induction k with
  | zero => exact h
  | succ k ih =>
    unfold mixN
    rw [length_splice _ _ _ (by rw [ih (by omega)]; show 4 * k + 4 ≤ 16; omega)]
    exact ih (by omega)
theorem times_still (b f : UInt8) (w : World) : Calls Try.prog 34 #[B b, B f] w fun e w' => e = .returned (B (gm b f)) ∧ w' = w := (times_any b f w).mono fun _ _ h => ⟨h.1, h.2.symm⟩
end Go.Proofs.Ytgkkafkdgmdihaa
