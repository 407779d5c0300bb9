/-
  Contracts of hashes.Size, Block, start, New, take.
-/
import Derived.Test.YtdgjjmaiibafhaaDoorP1
import Derived.Test.YtdgjjmaiibafhaaDoorP512
import Derived.Test.YtdgjjmaiibafhaaDoorApp
namespace Go.Proofs.YtdgjjmaiibafhaaDoor
open Go.RowKit

def hsize (k : Int) : Int := if k = 1 then 20 else if k = 2 then 28 else if k = 3 then 32 else if k = 4 then 48 else if k = 5 then 64 else 0
def hblock (k : Int) : Int := if k = 1 ∨ k = 2 ∨ k = 3 then 64 else if k = 4 ∨ k = 5 then 128 else 0
theorem size_any (kind : Int) (w : World) : Calls Tryd.prog 44 #[.int .i64 kind] w fun e w' => e = .returned (.int .i64 (hsize kind)) ∧ w = w' := by
  by_cases h1 : kind = 1
  · subst h1
    go_enter Tryd.func44, Tryd.ntmps44
    go_wp2
    go_ret
    exact ⟨rfl, rfl⟩
  by_cases h2 : kind = 2
  · subst h2
    go_enter Tryd.func44, Tryd.ntmps44
    go_wp2
    go_ret
    exact ⟨rfl, rfl⟩
  by_cases h3 : kind = 3
  · subst h3
    go_enter Tryd.func44, Tryd.ntmps44
    go_wp2
    go_ret
    exact ⟨rfl, rfl⟩
  by_cases h4 : kind = 4
  · subst h4
    go_enter Tryd.func44, Tryd.ntmps44
    go_wp2
    go_ret
    exact ⟨rfl, rfl⟩
  by_cases h5 : kind = 5
  · subst h5
    go_enter Tryd.func44, Tryd.ntmps44
    go_wp2
    go_ret
    exact ⟨rfl, rfl⟩
  have e1 : (kind == 1) = false := by simpa using h1
  have e2 : (kind == 2) = false := by simpa using h2
  have e3 : (kind == 3) = false := by simpa using h3
  have e4 : (kind == 4) = false := by simpa using h4
  have e5 : (kind == 5) = false := by simpa using h5
  have hz : hsize kind = 0 := by simp [hsize, h1, h2, h3, h4, h5]
  rw [hz]
  clear h1 h2 h3 h4 h5 hz
  go_enter Tryd.func44, Tryd.ntmps44
  go_wp2
  go_ret
  exact ⟨rfl, rfl⟩
theorem block_any (kind : Int) (w : World) : Calls Tryd.prog 52 #[.int .i64 kind] w fun e w' => e = .returned (.int .i64 (hblock kind)) ∧ w = w' := by
  by_cases h1 : kind = 1
  · subst h1
    go_enter Tryd.func52, Tryd.ntmps52
    go_wp2
    go_ret
    exact ⟨rfl, rfl⟩
  by_cases h2 : kind = 2
  · subst h2
    go_enter Tryd.func52, Tryd.ntmps52
    go_wp2
    go_ret
    exact ⟨rfl, rfl⟩
  by_cases h3 : kind = 3
  · subst h3
    go_enter Tryd.func52, Tryd.ntmps52
    go_wp2
    go_ret
    exact ⟨rfl, rfl⟩
  by_cases h4 : kind = 4
  · subst h4
    go_enter Tryd.func52, Tryd.ntmps52
    go_wp2
    go_ret
    exact ⟨rfl, rfl⟩
  by_cases h5 : kind = 5
  · subst h5
    go_enter Tryd.func52, Tryd.ntmps52
    go_wp2
    go_ret
    exact ⟨rfl, rfl⟩
  have e1 : (kind == 1) = false := by simpa using h1
  have e2 : (kind == 2) = false := by simpa using h2
  have e3 : (kind == 3) = false := by simpa using h3
  have e4 : (kind == 4) = false := by simpa using h4
  have e5 : (kind == 5) = false := by simpa using h5
  have hz : hblock kind = 0 := by simp [hblock, h1, h2, h3, h4, h5]
  rw [hz]
  clear h1 h2 h3 h4 h5 hz
  go_enter Tryd.func52, Tryd.ntmps52
  go_wp2
  go_ret
  exact ⟨rfl, rfl⟩
theorem rsize_any (kind : Int) (w : World) : Calls Tryd.prog 48 #[.int .i64 kind] w fun e w' => e = .returned (.int .i64 (hsize kind)) ∧ w = w' := by
  by_cases h1 : kind = 1
  · subst h1
    go_enter Tryd.func48, Tryd.ntmps48
    go_wp2
    go_ret
    exact ⟨rfl, rfl⟩
  by_cases h2 : kind = 2
  · subst h2
    go_enter Tryd.func48, Tryd.ntmps48
    go_wp2
    go_ret
    exact ⟨rfl, rfl⟩
  by_cases h3 : kind = 3
  · subst h3
    go_enter Tryd.func48, Tryd.ntmps48
    go_wp2
    go_ret
    exact ⟨rfl, rfl⟩
  by_cases h4 : kind = 4
  · subst h4
    go_enter Tryd.func48, Tryd.ntmps48
    go_wp2
    go_ret
    exact ⟨rfl, rfl⟩
  by_cases h5 : kind = 5
  · subst h5
    go_enter Tryd.func48, Tryd.ntmps48
    go_wp2
    go_ret
    exact ⟨rfl, rfl⟩
  have e1 : (kind == 1) = false := by simpa using h1
  have e2 : (kind == 2) = false := by simpa using h2
  have e3 : (kind == 3) = false := by simpa using h3
  have e4 : (kind == 4) = false := by simpa using h4
  have e5 : (kind == 5) = false := by simpa using h5
  have hz : hsize kind = 0 := by simp [hsize, h1, h2, h3, h4, h5]
  rw [hz]
  clear h1 h2 h3 h4 h5 hz
  go_enter Tryd.func48, Tryd.ntmps48
  go_wp2
  go_ret
  exact ⟨rfl, rfl⟩
theorem rblock_any (kind : Int) (w : World) : Calls Tryd.prog 50 #[.int .i64 kind] w fun e w' => e = .returned (.int .i64 (hblock kind)) ∧ w = w' := by
  by_cases h1 : kind = 1
  · subst h1
    go_enter Tryd.func50, Tryd.ntmps50
    go_wp2
    go_ret
    exact ⟨rfl, rfl⟩
  by_cases h2 : kind = 2
  · subst h2
    go_enter Tryd.func50, Tryd.ntmps50
    go_wp2
    go_ret
    exact ⟨rfl, rfl⟩
  by_cases h3 : kind = 3
  · subst h3
    go_enter Tryd.func50, Tryd.ntmps50
    go_wp2
    go_ret
    exact ⟨rfl, rfl⟩
  by_cases h4 : kind = 4
  · subst h4
    go_enter Tryd.func50, Tryd.ntmps50
    go_wp2
    go_ret
    exact ⟨rfl, rfl⟩
  by_cases h5 : kind = 5
  · subst h5
    go_enter Tryd.func50, Tryd.ntmps50
    go_wp2
    go_ret
    exact ⟨rfl, rfl⟩
  have e1 : (kind == 1) = false := by simpa using h1
  have e2 : (kind == 2) = false := by simpa using h2
  have e3 : (kind == 3) = false := by simpa using h3
  have e4 : (kind == 4) = false := by simpa using h4
  have e5 : (kind == 5) = false := by simpa using h5
  have hz : hblock kind = 0 := by simp [hblock, h1, h2, h3, h4, h5]
  rw [hz]
  clear h1 h2 h3 h4 h5 hz
  go_enter Tryd.func50, Tryd.ntmps50
  go_wp2
  go_ret
  exact ⟨rfl, rfl⟩

/-- A block is taken in, whatever the kind. -/
def takeK (kind : Int) (hs : List UInt64) (p : List UInt8) : List UInt64 := if kind = 1 then take1 hs p else if kind = 2 ∨ kind = 3 then take256 hs p else take512 hs p
theorem take256_len (hs : List UInt64) (p : List UInt8) (h : hs.length = 8) : (take256 hs p).length = 8 := by
  unfold take256; rw [List.length_zipWith, h]; unfold out256; rw [V8.list_len]; rfl
theorem take512_len (hs : List UInt64) (p : List UInt8) (h : hs.length = 8) : (take512 hs p).length = 8 := by
  unfold take512; rw [List.length_zipWith, h]; unfold out512; rw [V8.list_len]; rfl
theorem takeK_len (kind : Int) (hs : List UInt64) (p : List UInt8) (h : hs.length = 8) : (takeK kind hs p).length = 8 := by
  unfold takeK
  split
  · exact take1_len hs p h
  · split
    · exact take256_len hs p h
    · exact take512_len hs p h

theorem take_any (d : Nat) (kind : Int) (hs : List UInt64) (wv : Value) (cnt : UInt64) (b off c m : Nat) (p : List UInt8) (w : World) (h : Blk w d 91 (hcells kind hs wv cnt)) (h8 : hs.length = 8)
    (hp : At w b off p) (hm : m = p.length) (hpl : (p.length : Int) = hblock kind) (hk : 1 ≤ kind ∧ kind ≤ 5) (hc : m ≤ c) (hcm : c ≤ maxLen) (hK : KAt w) (hd0 : d ≠ 1) :
    Calls Tryd.prog 64 #[.pointer (some ⟨d, 0, none⟩), .slice (some ⟨b, off, none⟩) m c] w fun e w' => e = .returned (.tuple #[]) ∧ Blk w' d 91 (hcells kind (takeK kind hs p) wv cnt) ∧ Turn [d] w w' := by
  have c0 : w.cell? ⟨d, 0, none⟩ = some (.int .i64 kind) := h.cell 0
  obtain ⟨k1, k2⟩ := hk
  have hcase : kind = 1 ∨ kind = 2 ∨ kind = 3 ∨ kind = 4 ∨ kind = 5 := by omega
  rcases hcase with rfl | rfl | rfl | rfl | rfl
  · have hl : p.length = 64 := by simp [hblock] at hpl; omega
    rw [hl] at hm
    subst hm
    have HC := Lib.hid (sha1_any d 1 hs wv cnt b off c p w h h8 hp hl hc hcm)
    clear h hp hl hpl
    go_enter Tryd.func64, Tryd.ntmps64
    go_wp2_with (go_at_call 76; refine HC.out.mono ?_; rintro e w' ⟨rfl, hB, hT⟩)
    go_end0
    exact ⟨rfl, hB, hT⟩
  · have hl : p.length = 64 := by simp [hblock] at hpl; omega
    rw [hl] at hm
    subst hm
    have HC := Lib.hid (sha256_any d 2 hs wv cnt b off c p w h h8 hp hl hc hcm hK hd0)
    clear h hp hl hpl
    go_enter Tryd.func64, Tryd.ntmps64
    go_wp2_with (go_at_call 77; refine HC.out.mono ?_; rintro e w' ⟨rfl, hB, hT⟩)
    go_end0
    exact ⟨rfl, hB, hT⟩
  · have hl : p.length = 64 := by simp [hblock] at hpl; omega
    rw [hl] at hm
    subst hm
    have HC := Lib.hid (sha256_any d 3 hs wv cnt b off c p w h h8 hp hl hc hcm hK hd0)
    clear h hp hl hpl
    go_enter Tryd.func64, Tryd.ntmps64
    go_wp2_with (go_at_call 77; refine HC.out.mono ?_; rintro e w' ⟨rfl, hB, hT⟩)
    go_end0
    exact ⟨rfl, hB, hT⟩
  · have hl : p.length = 128 := by simp [hblock] at hpl; omega
    rw [hl] at hm
    subst hm
    have HC := Lib.hid (sha512_any d 4 hs wv cnt b off c p w h h8 hp hl hc hcm hK hd0)
    clear h hp hl hpl
    go_enter Tryd.func64, Tryd.ntmps64
    go_wp2_with (go_at_call 78; refine HC.out.mono ?_; rintro e w' ⟨rfl, hB, hT⟩)
    go_end0
    exact ⟨rfl, hB, hT⟩
  · have hl : p.length = 128 := by simp [hblock] at hpl; omega
    rw [hl] at hm
    subst hm
    have HC := Lib.hid (sha512_any d 5 hs wv cnt b off c p w h h8 hp hl hc hcm hK hd0)
    clear h hp hl hpl
    go_enter Tryd.func64, Tryd.ntmps64
    go_wp2_with (go_at_call 78; refine HC.out.mono ?_; rintro e w' ⟨rfl, hB, hT⟩)
    go_end0
    exact ⟨rfl, hB, hT⟩
end Go.Proofs.YtdgjjmaiibafhaaDoor
