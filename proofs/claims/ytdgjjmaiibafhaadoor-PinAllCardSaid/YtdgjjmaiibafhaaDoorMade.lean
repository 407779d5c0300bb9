/-
  Contracts of the hash states, as a law uses them: a state made by the law, what is written into it, its sum.
-/
import Derived.Test.YtdgjjmaiibafhaaDoorPl3
import Derived.Test.YtdgjjmaiibafhaaDoorReg
namespace Go.Proofs.YtdgjjmaiibafhaaDoor
open Go.RowKit

theorem mem_flat_le {l : List UInt8} {ls : List (List UInt8)} (h : l ∈ ls) : l.length ≤ ls.flatten.length := (List.sublist_flatten_of_mem h).length_le
theorem kat_old {w w' : World} (h : KAt w) (hb : Below w.heap.size w w') : KAt w' := h.below hb
theorem new_made (kind : Int) (w : World) (hk : 1 ≤ kind ∧ kind ≤ 5) (hK : KAt w) :
    Calls Tryd.prog 54 #[.int .i64 kind] w fun e w' => ∃ d, e = .returned (.pointer (some ⟨d, 0, none⟩)) ∧ Made w w' d kind (HSt.start kind) (.slice none 0 0) :=
  (new_any kind w hk hK).mono fun e w' ⟨d, he, hd, hA, hb⟩ => ⟨d, he, hd, hA, fun g hg => by simp [Value.ownBlock] at hg, hb⟩
theorem Made.later {w W W' : World} {d : Nat} {kind : Int} {s : HSt} {wv : Value} (h : Made w W d kind s wv) (hb : Below W.heap.size W W') : Made w W' d kind s wv :=
  ⟨h.lt, h.at_.below hb, h.fresh, h.below.trans (hb.mono h.below.size)⟩
theorem Made.turn {w W W' : World} {S : List Nat} {d : Nat} {kind : Int} {s : HSt} {wv : Value} (h : Made w W d kind s wv) (ht : Turn S W W') (hd : d ∉ S) (hw : ∀ g, wv.ownBlock = some g → g ∉ S) (hS : ∀ t ∈ S, w.heap.size ≤ t) : Made w W' d kind s wv :=
  ⟨h.lt, h.at_.turn ht hd hw, h.fresh, below_turn h.below ht hS h.below.size⟩
/-- What a state says of blocks: they are its own. -/
theorem write_made (w W Wc : World) (d : Nat) (kind : Int) (s : HSt) (wv : Value) (A : Option Addr) (m c : Nat) (l : List UInt8) (h : Made w W d kind s wv) (ho : Old W Wc) (hr : Rd Wc A m c l) (hl : s.wait.length + l.length ≤ 140737488355328) (hK : KAt w)
    (hA : ∀ ad, A = some ad → ad.block < w.heap.size ∨ W.heap.size ≤ ad.block) :
    Calls Tryd.prog 55 #[.pointer (some ⟨d, 0, none⟩), .slice A m c] Wc fun e w' => e = .returned (.tuple #[]) ∧ ∃ wv', Made w w' d kind (s.write kind l) wv' ∧ Turn (d :: wv.ownBlock.toList) Wc w' ∧ (∀ g, wv'.ownBlock = some g → Wc.heap.size ≤ g) := by
  have h2 := h.later ho
  refine (write_any d kind s.hs s.wait s.n wv A m c l Wc h2.at_ hr hl (hK.below h2.below) (fun ad had => ?_)).mono ?_
  · have h1 := hA ad had
    have h3 := h.at_.blk.lt
    refine ⟨fun e => by have := h.lt; omega, fun e => ?_⟩
    have h4 := h.fresh _ e
    have h5 := (h.at_.own.lt e).2
    omega
  · rintro e w' ⟨he, ⟨wv', hA', hf⟩, hT⟩
    refine ⟨he, wv', ⟨h.lt, hA', fun g hg => Nat.le_trans h2.below.size (hf g hg), below_turn h2.below hT ?_ h2.below.size⟩, hT, hf⟩
    intro t ht
    rcases List.mem_cons.1 ht with rfl | ht
    · exact h.lt
    · exact h.fresh t (by simpa using ht)
theorem sum_made (w W : World) (d : Nat) (kind : Int) (s : HSt) (wv : Value) (h : Made w W d kind s wv) (hl : s.wait.length ≤ 70368744177664) (hK : KAt w) :
    Calls Tryd.prog 57 #[.pointer (some ⟨d, 0, none⟩)] W (RowRes W (s.sum kind)) :=
  (sum_any d kind s.hs s.wait s.n wv W h.at_ hl (hK.below h.below)).mono fun _ _ ⟨_, c, he, ho, hb⟩ => ⟨_, _, c, he, ho, hb⟩
theorem of_res (kind : Int) (hk : 1 ≤ kind ∧ kind ≤ 5) (A : Option Addr) (m c : Nat) (ls : List (List UInt8)) (w : World) (hp : PartsAt w A m c ls) (hl : ls.flatten.length ≤ 140737488352000) (hK : KAt w) :
    Calls Tryd.prog 53 #[.int .i64 kind, .slice A m c] w (RowRes w (rof kind ls.flatten)) :=
  (of_any kind hk A m c ls w hp (fun l hm => by have := mem_flat_le hm; omega) hK).mono fun e w' ⟨g, c, he, ho, hb⟩ => by
    rw [writes_rof kind hk ls hl] at he ho
    exact ⟨_, _, c, he, ho, hb⟩
/-- The reference's HMAC. -/
def xorAll (l : List UInt8) (x : UInt8) : List UInt8 := l.map (· ^^^ x)
def rhkey (kind : Int) (key : List UInt8) : List UInt8 := if bl kind < key.length then rof kind key else key
def rhmac (kind : Int) (key b : List UInt8) : List UInt8 :=
  rof kind (xorAll (padTo (bl kind) (rhkey kind key)) 92 ++ rof kind (xorAll (padTo (bl kind) (rhkey kind key)) 54 ++ b))
theorem hkey_r (kind : Int) (hk : 1 ≤ kind ∧ kind ≤ 5) (key : List UInt8) (h : key.length ≤ 140737488352000) : hkey kind key = rhkey kind key := by
  have hb : hblock kind = ((bl kind : Nat) : Int) := by rcases bl_cases kind hk with ⟨h1, h2⟩ | ⟨h1, h2⟩ <;> rw [h1, h2] <;> rfl
  unfold hkey rhkey
  rw [hb]
  by_cases hlt : bl kind < key.length
  · rw [if_pos (by exact_mod_cast hlt), if_pos hlt, sum_rof kind hk key h]
  · rw [if_neg (by exact_mod_cast hlt), if_neg hlt]
theorem rof_len (kind : Int) (hk : 1 ≤ kind ∧ kind ≤ 5) (l : List UInt8) (h : l.length ≤ 140737488352000) : (rof kind l).length = (hsize kind).toNat := by
  rw [← sum_rof kind hk l h]
  exact sumOf_len kind _ _ _ hk (writes_len kind _)
theorem hsize_le (kind : Int) (hk : 1 ≤ kind ∧ kind ≤ 5) : (hsize kind).toNat ≤ 64 := by
  have hcase : kind = 1 ∨ kind = 2 ∨ kind = 3 ∨ kind = 4 ∨ kind = 5 := by omega
  rcases hcase with rfl | rfl | rfl | rfl | rfl <;> decide
theorem padTo_len (B : Nat) (l : List UInt8) (h : l.length ≤ B) : (padTo B l).length = B := by unfold padTo; rw [List.length_append, zs_len]; omega
theorem hmac_r (kind : Int) (hk : 1 ≤ kind ∧ kind ≤ 5) (key : List UInt8) (ls : List (List UInt8)) (h : key.length ≤ 140737488352000) (h2 : ls.flatten.length ≤ 140737488351500) : hmac kind key ls = rhmac kind key ls.flatten := by
  have hl : (hkey kind key).length ≤ bl kind := hkey_len kind key hk
  have hp := padTo_len _ _ hl
  have hb : bl kind ≤ 128 := by rcases bl_cases kind hk with ⟨_, h⟩ | ⟨_, h⟩ <;> omega
  unfold hmac mac rhmac
  rw [← hkey_r kind hk key h]
  generalize padTo (bl kind) (hkey kind key) = pd at *
  have e1 : (writes kind (pd.map (· ^^^ 54) :: ls)).sum kind = rof kind (xorAll pd 54 ++ ls.flatten) := by
    rw [writes_rof kind hk _ (by rw [List.flatten_cons, List.length_append, List.length_map]; omega)]; rfl
  rw [e1]
  have hr := rof_len kind hk (xorAll pd 54 ++ ls.flatten) (by rw [List.length_append]; unfold xorAll; rw [List.length_map]; omega)
  have hs := hsize_le kind hk
  rw [writes_rof kind hk _ (by simp [hr]; omega)]
  simp [xorAll]
theorem hmac_res (kind : Int) (hk : 1 ≤ kind ∧ kind ≤ 5) (A : Option Addr) (m c : Nat) (key : List UInt8) (A2 : Option Addr) (m2 c2 : Nat) (ls : List (List UInt8)) (w : World) (hr : Rd w A m c key) (hlk : key.length ≤ 140737488352000)
    (hp : PartsAt w A2 m2 c2 ls) (hl : ls.flatten.length ≤ 140737488351500) (hK : KAt w) :
    Calls Tryd.prog 42 #[.int .i64 kind, .slice A m c, .slice A2 m2 c2] w (RowRes w (rhmac kind key ls.flatten)) :=
  (hmac_any kind hk A m c key A2 m2 c2 ls w hr (by omega) hp (fun l hm => by have := mem_flat_le hm; omega) hK).mono fun e w' ⟨g, c, he, ho, hb⟩ => by
    rw [hmac_r kind hk key ls hlk hl] at he ho
    exact ⟨_, _, c, he, ho, hb⟩
theorem rof_out (kind : Int) (hk : ¬ (1 ≤ kind ∧ kind ≤ 5)) (l : List UInt8) : rof kind l = [] := by
  unfold rof
  rw [if_neg (by omega), if_neg (by omega), if_neg (by omega), if_neg (by omega), if_neg (by omega)]
theorem of_res_all (kind : Int) (A : Option Addr) (m c : Nat) (ls : List (List UInt8)) (w : World) (hp : PartsAt w A m c ls) (hl : ls.flatten.length ≤ 140737488352000) (hK : KAt w) :
    Calls Tryd.prog 53 #[.int .i64 kind, .slice A m c] w (RowRes w (rof kind ls.flatten)) := by
  by_cases hk : 1 ≤ kind ∧ kind ≤ 5
  · exact of_res kind hk A m c ls w hp hl hK
  · refine (of_none kind (by omega) A m c ls w hp).mono ?_
    rintro e w' ⟨rfl, hb⟩
    rw [rof_out kind hk]
    exact ⟨none, 0, 0, rfl, Own.nil _ _, hb⟩
theorem rof_res_all (kind : Int) (A : Option Addr) (m c : Nat) (l : List UInt8) (w : World) (hr : Rd w A m c l) (hl : l.length ≤ 140737488352000) :
    Calls Tryd.prog 51 #[.int .i64 kind, .slice A m c] w (RowRes w (rof kind l)) := by
  by_cases hk : 1 ≤ kind ∧ kind ≤ 5
  · exact rof_any kind hk A m c l w hr hl
  · refine (rof_none kind (by omega) _ w).mono ?_
    rintro e w' ⟨rfl, rfl⟩
    rw [rof_out kind hk]
    exact ⟨none, 0, 0, rfl, Own.nil _ _, Below.refl _ _⟩
theorem rd_two {w : World} {g : Nat} {A A' : Option Addr} {m c m' c' : Nat} {l l' : List UInt8} {t : TypeId} (hb : Blk w g t #[.slice A m c, .slice A' m' c']) (hr : Rd w A m c l) (hr' : Rd w A' m' c' l') : PartsAt w (some ⟨g, 0, none⟩) 2 2 [l, l'] := by
  refine ⟨rfl, Nat.le_refl _, by unfold maxLen; omega, fun _ => ⟨g, 0, rfl, hb.lt, fun i l'' hl => ?_⟩⟩
  match i, hl with
  | 0, hl => cases hl; exact ⟨A, m, c, hb.cell 0, hr⟩
  | 1, hl => cases hl; exact ⟨A', m', c', hb.cell 1, hr'⟩
end Go.Proofs.YtdgjjmaiibafhaaDoor
