/-
  Modes: what stands between two parts of a stream in the laws; New, refused or not; Final beside the document's answer.
-/
import Derived.Test.YtiocmebcbhbcmaaZzMw5
import Derived.Test.YtiocmebcbhbcmaaZzEmptyE
import Derived.Test.YtiocmebcbhbcmaaZzEmptyE
namespace Go.Proofs.Ytiocmebcbhbcmaa
set_option maxRecDepth 100000
open Go.RowKit

theorem new_bad (mode : Int) (enc : Bool) (A C : Option Addr) (mk ck m cm : Nat) (k p : List UInt8) (w : World) (hk : Rd w A mk ck k) (hp : Rd w C m cm p) (hm : m ≤ 100000) (h : mayF mode k p ≠ 0) :
    Calls Try.prog 16 #[.int .i64 mode, .bool enc, .slice A mk ck, .slice C m cm] w fun e w' => e = .returned (.tuple #[.pointer none, .int .i64 (mayF mode k p)]) ∧ Old w w' := by
  unfold mayF at h ⊢
  by_cases h1 : mode < 1 ∨ 5 < mode
  · rw [if_pos h1]
    exact (new_mode mode enc A C mk ck m cm w h1).mono fun e w' ⟨h, h'⟩ => ⟨h, by subst h'; exact Old.refl _⟩
  · rw [if_neg h1] at h ⊢
    obtain ⟨mo, rfl⟩ := Int.eq_ofNat_of_zero_le (show 0 ≤ mode by omega)
    rw [Int.toNat_natCast] at h ⊢
    refine (modesNew_any mo enc A C mk ck m cm k p w hk hp hm (by omega) (by omega)).mono fun e w' hN => ?_
    unfold NewPost at hN
    by_cases h2 : keyOk k
    · rw [if_neg (fun h => h h2)] at h hN
      rw [if_neg (fun h => h h2)]
      by_cases h3 : parOk mo p
      · rw [if_neg (fun h => h h3)] at h
        exact absurd rfl h
      · rw [if_pos h3] at hN ⊢
        exact hN
    · rw [if_pos h2] at hN ⊢
      exact hN
theorem new_good (mo : Nat) (enc : Bool) (A C : Option Addr) (mk ck m cm : Nat) (k p : List UInt8) (w : World) (hk : Rd w A mk ck k) (hp : Rd w C m cm p) (hm : m ≤ 100000) (h1 : 1 ≤ mo) (h5 : mo ≤ 5) (hko : keyOk k) (hpo : parOk mo p) :
    Calls Try.prog 16 #[.int .i64 (mo : Int), .bool enc, .slice A mk ck, .slice C m cm] w fun e w' => ∃ d, e = .returned (.tuple #[.pointer (some ⟨d, 0, none⟩), .int .i64 0]) ∧ NewRes w (PSof mo enc k p) w' d := by
  refine (modesNew_any mo enc A C mk ck m cm k p w hk hp hm h1 h5).mono fun e w' hN => ?_
  unfold NewPost at hN
  rwa [if_neg (fun h => h hko), if_neg (fun h => h hpo)] at hN
theorem fin_ref (mo : Nat) (enc : Bool) (k p al : List UInt8) (hk : keyOk k) (hp : parOk mo p) (h1 : 1 ≤ mo) (h5 : mo ≤ 5) : ∃ R : List UInt8 × Int, refM mo enc (encL (rks k) ((rks k).length / 16)) (decL (rks k) ((rks k).length / 16)) p al = R ∧
    ((PSof mo enc k p).fin al).2 = R.2 ∧ (R.2 = 0 → R.1 = (PSof mo enc k p).front al ++ ((PSof mo enc k p).fin al).1) := by
  refine ⟨_, rfl, ?_⟩
  have hs := refM_same mo enc k p al hk hp h1 h5
  rw [allF_val mo enc k p al hk hp h1 h5] at hs
  obtain ⟨s1, s2, _⟩ := hs
  by_cases h : ((PSof mo enc k p).fin al).2 = 0
  · rw [if_pos h] at s1 s2
    refine ⟨by rw [h]; exact s1, fun h0 => (s2 h0).symm⟩
  · rw [if_neg h] at s1 s2
    exact ⟨s1, fun h0 => absurd (s1.trans h0) h⟩
theorem fin_nil (s : PS) (al : List UInt8) (h : (s.fin al).2 ≠ 0) : (s.fin al).1 = [] := by
  unfold PS.fin at h ⊢
  by_cases h4 : s.mode = 4
  · rw [if_pos h4]
  · rw [if_neg h4] at h ⊢
    by_cases h5 : s.mode = 5
    · rw [if_pos h5] at h ⊢
      cases he : s.enc
      · rw [he, if_neg (by decide)] at h
        rw [if_neg (by decide)]
        unfold PS.open_ at h ⊢
        split
        · rfl
        · rename_i h6
          rw [if_neg h6] at h
          split
          · rename_i h7
            rw [if_pos h7] at h
            exact absurd rfl h
          · rfl
      · rw [he, if_pos rfl] at h
        exact absurd rfl h
    · rw [if_neg h5] at h ⊢
      unfold endB at h ⊢
      by_cases h3 : s.mode = 3
      · rw [if_pos h3] at h ⊢
        cases he : s.enc
        · rw [he, if_neg (by decide)] at h
          rw [if_neg (by decide)]
          split
          · rename_i h6
            rw [if_pos h6] at h
            unfold stripF at h ⊢
            split
            · rename_i h7
              rw [if_pos h7] at h
              exact absurd rfl h
            · rfl
          · rfl
        · rw [he, if_pos rfl] at h
          exact absurd rfl h
      · rw [if_neg h3] at h ⊢
        split
        · rfl
        · split <;> rfl
/-- What stands between two parts. -/
structure MsI (w1 wr : World) (d : Nat) (s : PS) (A : Option Addr) (n c : Nat) (al : List UInt8) (G : List Nat) (j kf : Nat) : Prop where
  own : Own wr w1.heap.size (.slice A n c) al
  str : StrAt wr G d s al
  gl : ∀ x ∈ G, w1.heap.size ≤ x ∧ x < wr.heap.size
  ng : ∀ g, (Value.slice A n c).ownBlock = some g → g ∉ G
  old : Old w1 wr
  len : al.length ≤ 40 * j
  kf : (s.front al).length = kf
theorem MsI.below {w1 wr w : World} {d : Nat} {s : PS} {A : Option Addr} {n c : Nat} {al : List UInt8} {G : List Nat} {j kf : Nat} (h : MsI w1 wr d s A n c al G j kf) (hb : Old wr w) : MsI w1 w d s A n c al G j kf :=
  ⟨h.own.below hb, h.str.below hb, fun x hx => ⟨(h.gl x hx).1, Nat.lt_of_lt_of_le (h.gl x hx).2 hb.size⟩, h.ng, Old.trans h.old hb, h.len, h.kf⟩
theorem MsI.start {w1 w2 : World} {d : Nat} {s : PS} (h : NewRes w1 s w2 d) : ∃ G, MsI w1 w2 d s none 0 0 [] G 0 0 := by
  obtain ⟨G, h1, h2, h3⟩ := h
  exact ⟨G, Own.nil _ _, h1, h2, fun g hg => by simp [Value.ownBlock] at hg, h3, by simp, by rw [PS.front_nil]; rfl⟩
/-- A part is laid down anew and is put behind all that came. -/
theorem ms_upd {w1 wr w2 w3 : World} {d : Nat} {s : PS} {A Ap Aa : Option Addr} {n c np cp na ca : Nat} {al pl : List UInt8} {G : List Nat} {j kf : Nat} (h : MsI w1 wr d s A n c al G j kf)
    (hGp : Grew wr.heap.size wr w2 (.slice none 0 0) Ap np cp ([] ++ pl)) (hGa : Grew w1.heap.size w2 w3 (.slice A n c) Aa na ca (al ++ ([] ++ pl))) :
    StrAt w3 G d s al ∧ Own w3 wr.heap.size (.slice Ap np cp) pl ∧ (∀ ad, Ap = some ad → ad.block ∉ G) ∧ (∀ x ∈ G, x < w3.heap.size) ∧ Own w3 w1.heap.size (.slice Aa na ca) (al ++ pl) ∧
      (∀ g, (Value.slice Aa na ca).ownBlock = some g → g ∉ G) ∧ (∀ g, (Value.slice Ap np cp).ownBlock = some g → (Value.slice Aa na ca).ownBlock ≠ some g) ∧ Old w1 w3 ∧ np = pl.length := by
  have hT3 : Turn (Value.slice A n c).ownBlock.toList w2 w3 := Turn.of_grown hGa.grown
  have hOp := hGp.own
  rw [List.nil_append] at hOp
  have hOa := hGa.own
  rw [List.nil_append] at hOa
  have hs2 := hGp.below.size
  have hs3 := hT3.size
  refine ⟨(h.str.below hGp.below).turn hT3 (fun x hx => h.ng x (by simpa using hx)), hOp.turn hT3 (fun g hg hm => ?_), fun ad e hm => ?_, fun x hx => by have := (h.gl x hx).2; omega, hOa, fun g hg hm => ?_, fun g hg e => ?_, ?_, hOp.len⟩
  · have h1 := (hOp.lt hg).1
    have h2 := (h.own.lt (show _ = some g by simpa using hm)).2
    omega
  · subst e
    have h1 := (hOp.lt (show (Value.slice (some ad) np cp).ownBlock = some ad.block from rfl)).1
    have h2 := (h.gl _ hm).2
    omega
  · rcases hGa.at_ with h2 | h2
    · rw [h2] at hg
      exact h.ng g hg hm
    · rw [h2] at hg
      cases hg
      have := (h.gl _ hm).2
      omega
  · have h1 := hOp.lt hg
    rcases hGa.at_ with h2 | h2
    · rw [h2] at e
      have := (h.own.lt e).2
      omega
    · rw [h2] at e
      cases e
      omega
  · exact below_turn (Old.trans h.old hGp.below) hT3 (fun t hm => (h.own.lt (show _ = some t by simpa using hm)).1) (Old.trans h.old hGp.below).size
theorem ms_next {w1 wr w2 w3 w4 : World} {d : Nat} {s : PS} {A Ap Aa Ao : Option Addr} {n c np cp na ca no co : Nat} {al pl out : List UInt8} {G G' : List Nat} {j kf : Nat} (h : MsI w1 wr d s A n c al G j kf)
    (hGp : Grew wr.heap.size wr w2 (.slice none 0 0) Ap np cp ([] ++ pl)) (hGa : Grew w1.heap.size w2 w3 (.slice A n c) Aa na ca (al ++ ([] ++ pl))) (hpl : pl.length ≤ 40)
    (hO : Own w4 w3.heap.size (.slice Ao no co) out) (hS : StrAt w4 G' d s (al ++ pl)) (hT : Turn G w3 w4) (hG1 : ∀ x ∈ G', x ∈ G ∨ w3.heap.size ≤ x) (hG2 : ∀ x ∈ G', x < w4.heap.size) (hng : ∀ g, (Value.slice Ao no co).ownBlock = some g → g ∉ G') :
    Own w4 wr.heap.size (.slice Ap np cp) pl ∧ ∀ wz, Turn (Value.slice Ap np cp).ownBlock.toList w4 wz → MsI w1 wz d s Aa na ca (al ++ pl) G' (j + 1) ((s.front (al ++ pl)).length) ∧ Own wz w3.heap.size (.slice Ao no co) out := by
  obtain ⟨h1, h2, h3, h4, h5, h6, h7, h8, h9⟩ := ms_upd h hGp hGa
  have hp4 : Own w4 wr.heap.size (.slice Ap np cp) pl := h2.turn hT (fun g hg hm => by have := (h2.lt hg).1; have := (h.gl g hm).2; omega)
  have ha4 : Own w4 w1.heap.size (.slice Aa na ca) (al ++ pl) := h5.turn hT h6
  have hs4 := hT.size
  have hpG : ∀ x, (Value.slice Ap np cp).ownBlock = some x → x ∉ G' := fun x hx hm => by
    have a1 := h2.lt hx
    rcases hG1 x hm with h' | h'
    · have := (h.gl x h').2; omega
    · omega
  refine ⟨hp4, fun wz hz => ⟨⟨ha4.turn hz (fun g hg hm => h7 g (by simpa using hm) hg), hS.turn hz (fun x hx => hpG x (by simpa using hx)), fun x hx => ⟨?_, Nat.lt_of_lt_of_le (hG2 x hx) hz.size⟩, fun g hg hm => ?_, ?_, ?_, rfl⟩, hO.turn hz (fun g hg hm => ?_)⟩⟩
  · rcases hG1 x hx with h' | h'
    · exact (h.gl x h').1
    · have := h8.size; omega
  · rcases hG1 g hm with h' | h'
    · exact h6 g hg h'
    · have := (h5.lt hg).2; omega
  · refine below_turn (below_turn h8 hT (fun t ht => (h.gl t ht).1) h8.size) hz (fun t ht => ?_) (by have := h8.size; omega)
    have a1 := (h2.lt (show _ = some t by simpa using ht)).1
    have := h.old.size
    omega
  · have := h.len
    rw [List.length_append]
    omega
  · have a1 := (hO.lt hg).1
    have a2 := (h2.lt (show _ = some g by simpa using hm)).2
    omega
end Go.Proofs.Ytiocmebcbhbcmaa
