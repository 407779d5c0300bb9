/-
  Contracts of hashes.Size, Block, start, New, take.
-/
import Derived.Test.YtgjnmpjimhbfgaaGreatDoorZzP512
import Derived.Test.YtgjnmpjimhbfgaaGreatDoorZzWBe
namespace Go.Proofs.YtgjnmpjimhbfgaaGreatDoor
set_option maxRecDepth 100000
open Go.RowKit
def hsize (k : Int) : Int := if k = 1 then 20 else if k = 2 then 28 else if k = 3 then 32 else if k = 4 then 48 else if k = 5 then 64 else 0
def hblock (k : Int) : Int := if k = 1 ∨ k = 2 ∨ k = 3 then 64 else if k = 4 ∨ k = 5 then 128 else 0
theorem size_any (kind : Int) (w : World) : Calls Tryz.prog 129 #[.int .i64 kind] w fun e w' => e = .returned (.int .i64 (hsize kind)) ∧ w = w' := by
 by_cases h1 : kind = 1
 ·subst h1
  go_enter Tryz.func129, Tryz.ntmps129
  go_wp2
  go_ret
  exact ⟨rfl, rfl⟩
 by_cases h2 : kind = 2
 ·subst h2
  go_enter Tryz.func129, Tryz.ntmps129
  go_wp2
  go_ret
  exact ⟨rfl, rfl⟩
 by_cases h3 : kind = 3
 ·subst h3
  go_enter Tryz.func129, Tryz.ntmps129
  go_wp2
  go_ret
  exact ⟨rfl, rfl⟩
 by_cases h4 : kind = 4
 ·subst h4
  go_enter Tryz.func129, Tryz.ntmps129
  go_wp2
  go_ret
  exact ⟨rfl, rfl⟩
 by_cases h5 : kind = 5
 ·subst h5
  go_enter Tryz.func129, Tryz.ntmps129
  go_wp2
  go_ret
  exact ⟨rfl, rfl⟩
 have e1 : (kind == 1) = false := by simpa using h1
 have e2 : (kind == 2) = false := by simpa using h2
 have e3 : (kind == 3) = false := by simpa using h3
 have e4 : (kind == 4) = false := by simpa using h4
 have e5 : (kind == 5) = false := by simpa using h5
 have hz : hsize kind = 0 := by simp [hsize, h1, h2, h3, h4, h5]
 rw [hz]
 clear h1 h2 h3 h4 h5 hz
 go_enter Tryz.func129, Tryz.ntmps129
 go_wp2
 go_ret
 exact ⟨rfl, rfl⟩
theorem block_any (kind : Int) (w : World) : Calls Tryz.prog 132 #[.int .i64 kind] w fun e w' => e = .returned (.int .i64 (hblock kind)) ∧ w = w' := by
 by_cases h1 : kind = 1
 ·subst h1
  go_enter Tryz.func132, Tryz.ntmps132
  go_wp2
  go_ret
  exact ⟨rfl, rfl⟩
 by_cases h2 : kind = 2
 ·subst h2
  go_enter Tryz.func132, Tryz.ntmps132
  go_wp2
  go_ret
  exact ⟨rfl, rfl⟩
 by_cases h3 : kind = 3
 ·subst h3
  go_enter Tryz.func132, Tryz.ntmps132
  go_wp2
  go_ret
  exact ⟨rfl, rfl⟩
 by_cases h4 : kind = 4
 ·subst h4
  go_enter Tryz.func132, Tryz.ntmps132
  go_wp2
  go_ret
  exact ⟨rfl, rfl⟩
 by_cases h5 : kind = 5
 ·subst h5
  go_enter Tryz.func132, Tryz.ntmps132
  go_wp2
  go_ret
  exact ⟨rfl, rfl⟩
 have e1 : (kind == 1) = false := by simpa using h1
 have e2 : (kind == 2) = false := by simpa using h2
 have e3 : (kind == 3) = false := by simpa using h3
 have e4 : (kind == 4) = false := by simpa using h4
 have e5 : (kind == 5) = false := by simpa using h5
 have hz : hblock kind = 0 := by simp [hblock, h1, h2, h3, h4, h5]
 rw [hz]
 clear h1 h2 h3 h4 h5 hz
 go_enter Tryz.func132, Tryz.ntmps132
 go_wp2
 go_ret
 exact ⟨rfl, rfl⟩
def takeK (kind : Int) (hs : List UInt64) (p : List UInt8) : List UInt64 := if kind = 1 then take1 hs p else if kind = 2 ∨ kind = 3 then take256 hs p else take512 hs p
theorem take256_len (hs : List UInt64) (p : List UInt8) (h : hs.length = 8) : (take256 hs p).length = 8 := by
 unfold take256; rw [List.length_zipWith, h]; unfold out256; rw [V8.list_len]; rfl
theorem take512_len (hs : List UInt64) (p : List UInt8) (h : hs.length = 8) : (take512 hs p).length = 8 := by
 unfold take512; rw [List.length_zipWith, h]; unfold out512; rw [V8.list_len]; rfl
theorem takeK_len (kind : Int) (hs : List UInt64) (p : List UInt8) (h : hs.length = 8) : (takeK kind hs p).length = 8 := by
 unfold takeK
 split
 ·exact take1_len hs p h
 ·split
  ·exact take256_len hs p h
  ·exact take512_len hs p h
theorem take_any (d : Nat) (kind : Int) (hs : List UInt64) (wv : Value) (cnt : UInt64) (b off c m : Nat) (p : List UInt8) (w : World) (h : Blk w d 168 (hcells kind hs wv cnt)) (h8 : hs.length = 8)
  (hp : At w b off p) (hm : m = p.length) (hpl : (p.length : Int) = hblock kind) (hk : 1 ≤ kind ∧ kind ≤ 5) (hc : m ≤ c) (hcm : c ≤ maxLen) (hK : KAt w) (hd0 : d ≠ 1) :
  Calls Tryz.prog 133 #[.pointer (some ⟨d, 0, none⟩), .slice (some ⟨b, off, none⟩) m c] w fun e w' => e = .returned (.tuple #[]) ∧ Blk w' d 168 (hcells kind (takeK kind hs p) wv cnt) ∧ Turn [d] w w' := by
 have c0 : w.cell? ⟨d, 0, none⟩ = some (.int .i64 kind) := h.cell 0
 obtain ⟨k1, k2⟩ := hk
 have hcase : kind = 1 ∨ kind = 2 ∨ kind = 3 ∨ kind = 4 ∨ kind = 5 := by omega
 rcases hcase with rfl | rfl | rfl | rfl | rfl
 ·have hl : p.length = 64 := by simp [hblock] at hpl; omega
  rw [hl] at hm
  subst hm
  have HC := Lib.hid (sha1_any d 1 hs wv cnt b off c p w h h8 hp hl hc hcm)
  clear h hp hl hpl
  go_enter Tryz.func133, Tryz.ntmps133
  go_wp2_with (go_at_call 154; refine HC.out.mono ?_; rintro e w' ⟨rfl, hB, hT⟩)
  go_end0
  exact ⟨rfl, hB, hT⟩
 ·have hl : p.length = 64 := by simp [hblock] at hpl; omega
  rw [hl] at hm
  subst hm
  have HC := Lib.hid (sha256_any d 2 hs wv cnt b off c p w h h8 hp hl hc hcm hK hd0)
  clear h hp hl hpl
  go_enter Tryz.func133, Tryz.ntmps133
  go_wp2_with (go_at_call 155; refine HC.out.mono ?_; rintro e w' ⟨rfl, hB, hT⟩)
  go_end0
  exact ⟨rfl, hB, hT⟩
 ·have hl : p.length = 64 := by simp [hblock] at hpl; omega
  rw [hl] at hm
  subst hm
  have HC := Lib.hid (sha256_any d 3 hs wv cnt b off c p w h h8 hp hl hc hcm hK hd0)
  clear h hp hl hpl
  go_enter Tryz.func133, Tryz.ntmps133
  go_wp2_with (go_at_call 155; refine HC.out.mono ?_; rintro e w' ⟨rfl, hB, hT⟩)
  go_end0
  exact ⟨rfl, hB, hT⟩
 ·have hl : p.length = 128 := by simp [hblock] at hpl; omega
  rw [hl] at hm
  subst hm
  have HC := Lib.hid (sha512_any d 4 hs wv cnt b off c p w h h8 hp hl hc hcm hK hd0)
  clear h hp hl hpl
  go_enter Tryz.func133, Tryz.ntmps133
  go_wp2_with (go_at_call 156; refine HC.out.mono ?_; rintro e w' ⟨rfl, hB, hT⟩)
  go_end0
  exact ⟨rfl, hB, hT⟩
 ·have hl : p.length = 128 := by simp [hblock] at hpl; omega
  rw [hl] at hm
  subst hm
  have HC := Lib.hid (sha512_any d 5 hs wv cnt b off c p w h h8 hp hl hc hcm hK hd0)
  clear h hp hl hpl
  go_enter Tryz.func133, Tryz.ntmps133
  go_wp2_with (go_at_call 156; refine HC.out.mono ?_; rintro e w' ⟨rfl, hB, hT⟩)
  go_end0
  exact ⟨rfl, hB, hT⟩
def one8 : List UInt64 := [0x6a09e667f3bcc908, 0xbb67ae8584caa73b, 0x3c6ef372fe94f82b, 0xa54ff53a5f1d36f1, 0x510e527fade682d1, 0x9b05688c2b3e6c1f, 0x1f83d9abfb41bd6b, 0x5be0cd19137e2179]
def two8 : List UInt64 := [0xcbbb9d5dc1059ed8, 0x629a292a367cd507, 0x9159015a3070dd17, 0x152fecd8f70e5939, 0x67332667ffc00b31, 0x8eb44a8768581511, 0xdb0c2e0d64f98fa7, 0x47b5481dbefa4fa4]
def sha18 : List UInt64 := [0x67452301, 0xefcdab89, 0x98badcfe, 0x10325476, 0xc3d2e1f0, 0, 0, 0]
def startW (kind : Int) : List UInt64 := if kind = 1 then sha18 else if kind = 2 then two8.map fun (x : UInt64) => x &&& 0xffffffff else if kind = 3 then one8.map fun (x : UInt64) => x >>> 32 else if kind = 4 then two8 else one8
theorem startW_len (kind : Int) : (startW kind).length = 8 := by unfold startW; split <;> (try split) <;> (try split) <;> (try split) <;> rfl
theorem andI_U64 (t : TypeId) (x : UInt64) (n : Int) (h0 : 0 ≤ n) : binOp .and t (U64 x) (.int .u64 n) = pure (U64 (x &&& UInt64.ofNat n.toNat)) := by
 obtain ⟨m, rfl⟩ := Int.eq_ofNat_of_zero_le h0
 show (pure (.int .u64 (IntKind.u64.wrap (BitVec.toNat (BitVec.ofInt 64 (x.toNat : Int) &&& BitVec.ofInt 64 (m : Int))))) : Sem Value) = _
 rw [wrap_u64, ← U64_eq]
 simp only [Int.toNat_natCast, BitVec.ofInt_natCast, UInt64.toNat_and, BitVec.toNat_and, BitVec.toNat_ofNat, UInt64.toNat_ofNat']
 have := x.toNat_lt
 rw [Nat.mod_eq_of_lt (a := x.toNat) (by omega)]
 have : x.toNat &&& (m % 2 ^ 64) < 2 ^ 64 := Nat.and_lt_two_pow _ (Nat.mod_lt _ (by decide))
 omega
attribute [go_sem] andI_U64
theorem start1 (w : World) : Calls Tryz.prog 130 #[.int .i64 1] w fun e w' => e = .returned (.agg #[.int .u64 1732584193, .int .u64 4023233417, .int .u64 2562383102, .int .u64 271733878, .int .u64 3285377520, .int .u64 0, .int .u64 0, .int .u64 0]) ∧ Below w.heap.size w w' := by
 go_enter Tryz.func130, Tryz.ntmps130
 go_wp2
 refine bodyPost_ret (v := .agg #[.int .u64 1732584193, .int .u64 4023233417, .int .u64 2562383102, .int .u64 271733878, .int .u64 3285377520, .int .u64 0, .int .u64 0, .int .u64 0]) (by simp [results, Tryz.results130, go_sem]) rfl ⟨rfl, ?_⟩
 repeat (first | exact Below.refl _ _ | refine Below.setCell ?_ (by simp; try omega) _ | refine Below.alloc ?_ (by simp; try omega) _)
theorem start4 (w : World) : Calls Tryz.prog 130 #[.int .i64 4] w fun e w' => e = .returned (.agg #[.int .u64 14680500436340154072, .int .u64 7105036623409894663, .int .u64 10473403895298186519, .int .u64 1526699215303891257, .int .u64 7436329637833083697, .int .u64 10282925794625328401, .int .u64 15784041429090275239, .int .u64 5167115440072839076]) ∧ Below w.heap.size w w' := by
 go_enter Tryz.func130, Tryz.ntmps130
 go_wp2
 refine bodyPost_ret (v := .agg #[.int .u64 14680500436340154072, .int .u64 7105036623409894663, .int .u64 10473403895298186519, .int .u64 1526699215303891257, .int .u64 7436329637833083697, .int .u64 10282925794625328401, .int .u64 15784041429090275239, .int .u64 5167115440072839076]) (by simp [results, Tryz.results130, go_sem]) rfl ⟨rfl, ?_⟩
 repeat (first | exact Below.refl _ _ | refine Below.setCell ?_ (by simp; try omega) _ | refine Below.alloc ?_ (by simp; try omega) _)
theorem start5 (w : World) : Calls Tryz.prog 130 #[.int .i64 5] w fun e w' => e = .returned (.agg #[.int .u64 7640891576956012808, .int .u64 13503953896175478587, .int .u64 4354685564936845355, .int .u64 11912009170470909681, .int .u64 5840696475078001361, .int .u64 11170449401992604703, .int .u64 2270897969802886507, .int .u64 6620516959819538809]) ∧ Below w.heap.size w w' := by
 go_enter Tryz.func130, Tryz.ntmps130
 go_wp2
 refine bodyPost_ret (v := .agg #[.int .u64 7640891576956012808, .int .u64 13503953896175478587, .int .u64 4354685564936845355, .int .u64 11912009170470909681, .int .u64 5840696475078001361, .int .u64 11170449401992604703, .int .u64 2270897969802886507, .int .u64 6620516959819538809]) (by simp [results, Tryz.results130, go_sem]) rfl ⟨rfl, ?_⟩
 repeat (first | exact Below.refl _ _ | refine Below.setCell ?_ (by simp; try omega) _ | refine Below.alloc ?_ (by simp; try omega) _)
theorem start2 (w : World) : Calls Tryz.prog 130 #[.int .i64 2] w fun e w' => e = .returned (.agg #[.int .u64 3238371032, .int .u64 914150663, .int .u64 812702999, .int .u64 4144912697, .int .u64 4290775857, .int .u64 1750603025, .int .u64 1694076839, .int .u64 3204075428]) ∧ Below w.heap.size w w' := by
 go_enter Tryz.func130, Tryz.ntmps130
 go_wp2
 refine wp_loop_rounds 9 ?_
 repeat (rw [rounds_succ]; go_wp2)
 refine bodyPost_ret (v := .agg #[.int .u64 3238371032, .int .u64 914150663, .int .u64 812702999, .int .u64 4144912697, .int .u64 4290775857, .int .u64 1750603025, .int .u64 1694076839, .int .u64 3204075428]) (by simp [results, Tryz.results130, go_sem]; exact ⟨by kernel_rfl, by kernel_rfl, by kernel_rfl, by kernel_rfl, by kernel_rfl, by kernel_rfl, by kernel_rfl, by kernel_rfl⟩) rfl ⟨rfl, ?_⟩
 repeat (first | exact Below.refl _ _ | refine Below.setCell ?_ (by simp; try omega) _ | refine Below.alloc ?_ (by simp; try omega) _)
theorem start3 (w : World) : Calls Tryz.prog 130 #[.int .i64 3] w fun e w' => e = .returned (.agg #[.int .u64 1779033703, .int .u64 3144134277, .int .u64 1013904242, .int .u64 2773480762, .int .u64 1359893119, .int .u64 2600822924, .int .u64 528734635, .int .u64 1541459225]) ∧ Below w.heap.size w w' := by
 go_enter Tryz.func130, Tryz.ntmps130
 go_wp2
 refine wp_loop_rounds 9 ?_
 repeat (rw [rounds_succ]; go_wp2)
 refine bodyPost_ret (v := .agg #[.int .u64 1779033703, .int .u64 3144134277, .int .u64 1013904242, .int .u64 2773480762, .int .u64 1359893119, .int .u64 2600822924, .int .u64 528734635, .int .u64 1541459225]) (by simp [results, Tryz.results130, go_sem]) rfl ⟨rfl, ?_⟩
 repeat (first | exact Below.refl _ _ | refine Below.setCell ?_ (by simp; try omega) _ | refine Below.alloc ?_ (by simp; try omega) _)
theorem start_any (kind : Int) (w : World) (hk : 1 ≤ kind ∧ kind ≤ 5) : Calls Tryz.prog 130 #[.int .i64 kind] w fun e w' => e = .returned (.agg ((startW kind).map U64).toArray) ∧ Below w.heap.size w w' := by
 obtain ⟨k1, k2⟩ := hk
 have hcase : kind = 1 ∨ kind = 2 ∨ kind = 3 ∨ kind = 4 ∨ kind = 5 := by omega
 rcases hcase with rfl | rfl | rfl | rfl | rfl
 ·exact (start1 w).mono fun e w' h => ⟨h.1.trans (by kernel_rfl), h.2⟩
 ·exact (start2 w).mono fun e w' h => ⟨h.1.trans (by kernel_rfl), h.2⟩
 ·exact (start3 w).mono fun e w' h => ⟨h.1.trans (by kernel_rfl), h.2⟩
 ·exact (start4 w).mono fun e w' h => ⟨h.1.trans (by kernel_rfl), h.2⟩
 ·exact (start5 w).mono fun e w' h => ⟨h.1.trans (by kernel_rfl), h.2⟩
structure HashAt (w : World) (d : Nat) (kind : Int) (hs : List UInt64) (wait : List UInt8) (n : UInt64) (wv : Value) : Prop where
 kindOk : 1 ≤ kind ∧ kind ≤ 5
 blk : Blk w d 168 (hcells kind hs wv n)
 len : hs.length = 8
 own : Own w (1 + 1) wv wait
 ne0 : d ≠ 1
theorem hnew_any (kind : Int) (w : World) (hk : 1 ≤ kind ∧ kind ≤ 5) (hK : KAt w) : Calls Tryz.prog 103 #[.int .i64 kind] w fun e w' => ∃ d, e = .returned (.pointer (some ⟨d, 0, none⟩)) ∧ w.heap.size ≤ d ∧ HashAt w' d kind (startW kind) [] 0 (.slice none 0 0) ∧ Below w.heap.size w w' := by
 have hz : (hsize kind == 0) = false := by
  have hcase : kind = 1 ∨ kind = 2 ∨ kind = 3 ∨ kind = 4 ∨ kind = 5 := by omega
  rcases hcase with rfl | rfl | rfl | rfl | rfl <;> decide
 have hl := startW_len kind
 have HS := Lib.hid (start_any kind w hk)
 have HK := Lib.hid hk
 generalize hsz : hsize kind = z at *
 have HZ := Lib.hid hsz
 generalize hst : startW kind = st at *
 have Hst := Lib.hid hst
 clear hsz hst hk
 obtain ⟨x0, x1, x2, x3, x4, x5, x6, x7, rfl⟩ : ∃ a b c d e f g h, st = [a, b, c, d, e, f, g, h] := by
  match st, hl with
  | [a, b, c, d, e, f, g, h], _ => exact ⟨_, _, _, _, _, _, _, _, rfl⟩
 simp only [List.map_cons, List.map_nil] at HS
 go_enter Tryz.func103, Tryz.ntmps103
 go_wp2_with (first | (go_at_call 129; refine (size_any kind _).mono ?_; rintro e w' ⟨rfl, rfl⟩; rw [HZ.out]) | (go_at_call 130; refine HS.out.mono ?_; rintro e w1 ⟨rfl, hB⟩))
 go_ret
 refine ⟨_, rfl, hB.size, ⟨HK.out, ?_, hl, ?_, ?_⟩, hB.trans ((Below.refl _ _).alloc hB.size _)⟩
 ·exact Blk.new w1 _ (hcells kind [x0, x1, x2, x3, x4, x5, x6, x7] (.slice none 0 0) 0)
 ·exact World.ownsRow_nil _ _ _ _
 ·have := hK.1; have := hB.size; omega
end Go.Proofs.YtgjnmpjimhbfgaaGreatDoor
