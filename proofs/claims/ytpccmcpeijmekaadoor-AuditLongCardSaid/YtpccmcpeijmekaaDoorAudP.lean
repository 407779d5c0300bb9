/-
  Lines of a log, plainly: numbers as bytes and back.
-/
import Derived.Test.YtpccmcpeijmekaaDoorWords16
import Derived.Test.YtpccmcpeijmekaaDoorRot
import Derived.Test.YtpccmcpeijmekaaDoorRh2
import Derived.Test.YtpccmcpeijmekaaDoorRk2
import Derived.Test.YtpccmcpeijmekaaDoorAudL
namespace Go.Proofs.YtpccmcpeijmekaaDoor

theorem beTail_2 (n : Nat) (hn : n < 2 ^ 16) : beTail n 2 = bytes16 (UInt16.ofNat n) := by
  unfold bytes16
  simp only [beTail]
  have h1 : (UInt16.ofNat n >>> 8).toUInt8 = UInt8.ofNat (n / 256 ^ 1) := by
    apply UInt8.toNat.inj
    rw [UInt16.toNat_toUInt8, UInt16.toNat_shiftRight, UInt16.toNat_ofNat', UInt8.toNat_ofNat', Nat.mod_eq_of_lt (a := n) (by omega), Nat.shiftRight_eq_div_pow]
    simp
  have h2 : (UInt16.ofNat n).toUInt8 = UInt8.ofNat (n / 256 ^ 0) := by
    apply UInt8.toNat.inj
    rw [UInt16.toNat_toUInt8, UInt16.toNat_ofNat', UInt8.toNat_ofNat']
    simp
  rw [h1, h2]
theorem shl_or (a b i : Nat) (h : b < 2 ^ i) : (a <<< i) ||| b = a * 2 ^ i + b := by
  rw [← Nat.shiftLeft_add_eq_or_of_lt h, Nat.shiftLeft_eq]
theorem word16_nat (l : List UInt8) (k : Nat) : (word16 l k).toNat = (l.getD k 0).toNat * 256 + (l.getD (k + 1) 0).toNat := by
  unfold word16
  have h0 := (l.getD k 0).toNat_lt
  have h1 := (l.getD (k + 1) 0).toNat_lt
  rw [UInt16.toNat_or, UInt16.toNat_shiftLeft, UInt8.toNat_toUInt16, UInt8.toNat_toUInt16]
  rw [show (8 : UInt16).toNat % 16 = 8 from rfl, Nat.mod_eq_of_lt (by rw [Nat.shiftLeft_eq]; omega), shl_or _ _ 8 (by omega)]
theorem word32_nat (l : List UInt8) (k : Nat) : (word32 l k).toNat = (l.getD k 0).toNat * 16777216 + (l.getD (k + 1) 0).toNat * 65536 + (l.getD (k + 2) 0).toNat * 256 + (l.getD (k + 3) 0).toNat := by
  unfold word32 be32
  have h0 := (l.getD k 0).toNat_lt
  have h1 := (l.getD (k + 1) 0).toNat_lt
  have h2 := (l.getD (k + 2) 0).toNat_lt
  have h3 := (l.getD (k + 3) 0).toNat_lt
  generalize l.getD k 0 = a at *
  generalize l.getD (k + 1) 0 = b at *
  generalize l.getD (k + 2) 0 = c at *
  generalize l.getD (k + 3) 0 = d at *
  simp only [UInt32.toNat_or, UInt32.toNat_shiftLeft, UInt8.toNat_toUInt32]
  rw [show (8 : UInt32).toNat % 32 = 8 from rfl, show (16 : UInt32).toNat % 32 = 16 from rfl, show (24 : UInt32).toNat % 32 = 24 from rfl]
  rw [Nat.mod_eq_of_lt (by rw [Nat.shiftLeft_eq]; omega), Nat.mod_eq_of_lt (by rw [Nat.shiftLeft_eq]; omega), Nat.mod_eq_of_lt (by rw [Nat.shiftLeft_eq]; omega)]
  rw [shl_or a.toNat (b.toNat <<< 16) 24 (by rw [Nat.shiftLeft_eq]; omega), Nat.shiftLeft_eq b.toNat]
  rw [show a.toNat * 2 ^ 24 + b.toNat * 2 ^ 16 = (a.toNat * 256 + b.toNat) <<< 16 by rw [Nat.shiftLeft_eq]; omega]
  rw [shl_or _ (c.toNat <<< 8) 16 (by rw [Nat.shiftLeft_eq]; omega), Nat.shiftLeft_eq c.toNat]
  rw [show (a.toNat * 256 + b.toNat) * 2 ^ 16 + c.toNat * 2 ^ 8 = ((a.toNat * 256 + b.toNat) * 256 + c.toNat) <<< 8 by rw [Nat.shiftLeft_eq]; omega]
  rw [shl_or _ _ 8 (by omega)]
  omega
theorem word64_nat (l : List UInt8) (k : Nat) : (word64 l k).toNat = (word32 l k).toNat * 4294967296 + (word32 l (k + 4)).toNat := by
  rw [word64_two, UInt64.toNat_or, UInt64.toNat_shiftLeft, UInt32.toNat_toUInt64, UInt32.toNat_toUInt64]
  have h0 := (word32 l k).toNat_lt
  have h1 := (word32 l (k + 4)).toNat_lt
  rw [show (32 : UInt64).toNat % 64 = 32 from rfl, Nat.mod_eq_of_lt (by rw [Nat.shiftLeft_eq]; omega), shl_or _ _ 32 (by omega)]
/-- What the first 20 bytes of a line say. -/
def rdE (b : List UInt8) : Ent := ⟨(word32 b 0).toNat, (word64 b 4).toNat, (word16 b 12).toNat, (word32 b 14).toNat, (word16 b 18).toNat⟩
theorem hb_bytes (seq : Nat) (e : Ent) (r : List UInt8) : hb seq e ++ r = UInt8.ofNat (seq / 256 ^ 3) :: UInt8.ofNat (seq / 256 ^ 2) :: UInt8.ofNat (seq / 256 ^ 1) :: UInt8.ofNat (seq / 256 ^ 0) ::
    UInt8.ofNat (e.time / 256 ^ 7) :: UInt8.ofNat (e.time / 256 ^ 6) :: UInt8.ofNat (e.time / 256 ^ 5) :: UInt8.ofNat (e.time / 256 ^ 4) :: UInt8.ofNat (e.time / 256 ^ 3) :: UInt8.ofNat (e.time / 256 ^ 2) :: UInt8.ofNat (e.time / 256 ^ 1) :: UInt8.ofNat (e.time / 256 ^ 0) ::
    UInt8.ofNat (e.fn / 256 ^ 1) :: UInt8.ofNat (e.fn / 256 ^ 0) :: UInt8.ofNat (e.rv / 256 ^ 3) :: UInt8.ofNat (e.rv / 256 ^ 2) :: UInt8.ofNat (e.rv / 256 ^ 1) :: UInt8.ofNat (e.rv / 256 ^ 0) :: UInt8.ofNat (e.slot / 256 ^ 1) :: UInt8.ofNat (e.slot / 256 ^ 0) :: r := by
  simp [hb, beTail]
theorem rdE_line (seq : Nat) (e : Ent) (r : List UInt8) (hs : seq < 4294967296) (he : e.ok) : rdE (hb seq e ++ r) = { e with seq := seq } := by
  obtain ⟨h1, h2, h3, h4⟩ := he
  obtain ⟨_, time, fn, rv, slot⟩ := e
  simp only at h1 h2 h3 h4
  rw [hb_bytes]
  unfold rdE
  rw [word64_nat, word32_nat, word32_nat, word32_nat, word32_nat, word16_nat, word16_nat]
  simp only [List.getD, List.getElem?_cons_zero, List.getElem?_cons_succ, Option.getD_some, Nat.reduceAdd, UInt8.toNat_ofNat', Ent.mk.injEq]
  refine ⟨by omega, by omega, by omega, by omega, by omega⟩
theorem line_time (seq : Nat) (e : Ent) (r : List UInt8) (he : e.ok) : ((hb seq e ++ r).getD 4 0).toNat < 128 := by
  have h1 := he.time
  rw [hb_bytes]
  simp only [List.getD, List.getElem?_cons_zero, List.getElem?_cons_succ, Option.getD_some, UInt8.toNat_ofNat']
  omega
/-- Two lines' first bytes tell their numbers. -/
theorem hb_seq (s t : Nat) (e f : Ent) (r q : List UInt8) (hs : s < 4294967296) (ht : t < 4294967296) (h : hb s e ++ r = hb t f ++ q) : s = t := by
  have h2 : word32 (hb s e ++ r) 0 = word32 (hb t f ++ q) 0 := by rw [h]
  have h3 := congrArg UInt32.toNat h2
  rw [word32_nat, word32_nat, hb_bytes, hb_bytes] at h3
  simp only [List.getD, List.getElem?_cons_zero, List.getElem?_cons_succ, Option.getD_some, Nat.reduceAdd, UInt8.toNat_ofNat'] at h3
  omega
end Go.Proofs.YtpccmcpeijmekaaDoor
