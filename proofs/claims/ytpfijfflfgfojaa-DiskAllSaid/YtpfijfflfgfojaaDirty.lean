/-
  Contracts of disk.Dirty and of its iterator.
-/
import Derived.Test.YtpfijfflfgfojaaDisk8
import Derived.Test.YtpfijfflfgfojaaRange
import Derived.RangeFuncBound
import Derived.RangeFuncCalls
import Derived.OwnWalkIn
import Derived.TacticsInMore
import Derived.LoopNIn
import Derived.LoopIn
namespace Go.Proofs.Ytpfijfflfgfojaa
open Go.RowKit
attribute [local go_sem] Oper.semAt_some

theorem DiskAt.turn' {w w' : World} {d L : Nat} {xs : List SecV} {s : Dsk} (h : DiskAt w d L xs s) {S : List Nat} (ht : Turn S w w') (hd : d ∉ S) (hL : L ∉ S) (hS : ∀ g ∈ S, NoRow w g) : DiskAt w' d L xs s := by
  have ne : ∀ {v : Value} {o : Option (List UInt8)}, Byt w v o → ∀ g, v.ownBlock = some g → g ∉ S := by
    intro v o hv g hg hm
    exact hv.notin (hS g hm) hg
  exact ⟨h.1.turn ht hd, h.2.1.turn ht hL, ⟨h.2.2.1.1, fun i x s hx hs => let ⟨a, b, c⟩ := h.2.2.1.2 i x s hx hs; ⟨a.turn ht (ne a), b.turn ht (ne b), c⟩⟩, h.2.2.2⟩

/-- The sectors below k that were not synced. -/
def Dsk.wet (s : Dsk) (k : Nat) : List Nat := (List.range k).filter fun i => (s.secs[i]?).any (·.dirty)
theorem Dsk.wet_succ (s : Dsk) (k : Nat) (h : k < s.secs.length) : s.wet (k + 1) = s.wet k ++ if s.secs[k].dirty then [k] else [] := by
  unfold Dsk.wet
  rw [List.range_succ, List.filter_append]
  simp [h, List.filter_cons]
theorem Dsk.wet_prefix (s : Dsk) (k n : Nat) (h : k ≤ n) : ∃ r, s.wet n = s.wet k ++ r := by
  obtain ⟨m, rfl⟩ : ∃ m, n = k + m := ⟨n - k, by omega⟩
  exact ⟨_, by unfold Dsk.wet; rw [List.range_add, List.filter_append]⟩

theorem dirty_any (p : Option Addr) (w : World) : Calls Try.prog 21 #[.pointer p] w fun e w' =>
    e = .returned (.func (.func 32) #[] #[.pointer (some ⟨w.heap.size, 0, none⟩)]) ∧ w.alloc (.cells #[.pointer p] 24) = w' := by
  go_enter Try.func21, Try.ntmps21
  go_wp2
  go_ret
  exact ⟨rfl, rfl⟩

def wetArg (s : Dsk) (k : Nat) (args : Array Value) (_ : World) : Prop := ∃ i, (s.wet s.secs.length)[k]? = some i ∧ args = #[.int .i64 i]
def wetMine (bx d L : Nat) (xs : List SecV) (s : Dsk) (_ : Nat) (W : World) : Prop := W.cell? ⟨bx, 0, none⟩ = some (.pointer (some ⟨d, 0, none⟩)) ∧ DiskAt W d L xs s

set_option maxHeartbeats 1000000 in
theorem dirty_iter (bx d L : Nat) (xs : List SecV) (s : Dsk) :
    Iter Try.prog 32 #[.pointer (some ⟨bx, 0, none⟩)] (wetArg s) (wetMine bx d L xs s) (s.wet s.secs.length).length [] := by
  intro l J Jx W hJ hJx hY h0 hM
  refine callsIn_of_wp Try.func32 rfl trivial ?_ rfl
  simp only [Try.ntmps32, List.size_toArray, List.length_cons, List.length_nil, Nat.reduceAdd, Nat.reduceSub, Array.replicate_succ, Array.replicate_zero, List.push_toArray, List.append_toArray, List.nil_append, List.cons_append]
  have hb0 := hM.1
  have hn := hM.2.2.2.2.2
  have hS := Lib.hid (sectors_any d L xs s W hM.2)
  gi_wp2_with (refine ⟨trivial, ?_⟩; gi_at_call 22; refine (callsIn_wide.2 hS.out).mono ?_; rintro e w' ⟨rfl, rfl⟩)
  gi_loopw [6] (fun i wr => ∃ k : Nat, k ≤ s.secs.length ∧ i = .int .i64 k ∧ J (s.wet k).length wr ∧ wetMine bx d L xs s 0 wr) (fun i _ => s.secs.length - (intOf i).toNat)
  case atStart => exact ⟨0, by omega, rfl, h0, hM⟩
  case round =>
    obtain ⟨k, hk, rfl, hJk, hMk⟩ := hrel
    clear hS hM hb0 h0
    by_cases hlt : k < s.secs.length
    · have hki : (k : Int) < s.secs.length := by omega
      have hk0 : (0 : Int) ≤ k := by omega
      obtain ⟨x, hx⟩ : ∃ x, xs[k]? = some x := ⟨_, List.getElem?_eq_getElem (by rw [hMk.2.2.2.1.1]; exact hlt)⟩
      have hdd := (hMk.2.2.2.1.2 k x _ hx (List.getElem?_eq_getElem hlt)).2.2.1
      have hb0 := hMk.1
      have q0 := hMk.2.1.cell 0
      simp at q0
      have r2 := hMk.2.2.1.cell (k * 3 + 2)
      rw [List.getElem?_toArray, (encS_get xs k x hx).2.2, hdd] at r2
      have hw := Dsk.wet_succ s k hlt
      cases hdb : s.secs[k].dirty with
      | false =>
        rw [hdb] at r2
        simp only [hdb, Bool.false_eq_true, if_false, List.append_nil] at hw
        have HW := Lib.hid hw
        have HJ := Lib.hid hJk
        have HM := Lib.hid hMk
        clear hw hx hdd hdb hJk hMk
        gi_wp2
        refine ⟨fun _ h => (by cases h), ?_⟩
        gi_wp2
        go_roundw
        case rel => exact ⟨k + 1, by omega, by go_num, by rw [HW.out]; exact HJ.out, HM.out⟩
        case measure => simp [intOf]; omega
      | true =>
        rw [hdb] at r2
        simp only [hdb, if_true] at hw
        obtain ⟨rest, hr⟩ := Dsk.wet_prefix s (k + 1) s.secs.length (by omega)
        have hat : (s.wet s.secs.length)[(s.wet k).length]? = some k := by rw [hr, hw]; simp
        obtain ⟨fn, tmps, assign, body, hy, hR⟩ := hY (s.wet k).length #[.int .i64 k] wr (List.getElem?_eq_some_iff.1 hat).1 hJk hMk ⟨k, hat, rfl⟩
        have HW := Lib.hid (show (s.wet (k + 1)).length = (s.wet k).length + 1 by rw [hw]; simp)
        have HR := Lib.hid hR
        have HL := Lib.hid (List.getElem?_eq_some_iff.1 hat).1
        clear hw hx hdd hdb hJk hMk hr hat hR
        gi_wp2
        refine HR.out.mono ?_
        rintro e W' (⟨rfl, hJ', hM'⟩ | ⟨rfl, hJx'⟩)
        · gi_wp2
          go_roundw
          case rel => exact ⟨k + 1, by omega, by go_num, by rw [HW.out]; exact hJ', hM'⟩
          case measure => simp [intOf]; omega
        · gi_wp2
          refine bodyPost_ret (results_none rfl _ _ _) rfl ?_
          exact ⟨⟨_, rfl⟩, .inr ⟨_, HL.out, hJx'⟩⟩
    · obtain rfl : k = s.secs.length := by omega
      have hq : ¬ ((s.secs.length : Int) < s.secs.length) := by omega
      gi_wp2
      go_end0
      exact ⟨⟨_, rfl⟩, .inl hJk⟩
end Go.Proofs.Ytpfijfflfgfojaa
