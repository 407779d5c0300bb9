/-
  The law HashBig, walked: sizes beyond the limits give nothing.
-/
import Derived.Test.YtdlipoklhojjkaaDoorHMg
import Derived.Test.YtdlipoklhojjkaaDoorPb3
namespace Go.Proofs.YtdlipoklhojjkaaDoor
open Go.RowKit

theorem mask_len (kind : Int) (hk : 1 ≤ kind ∧ kind ≤ 5) (seed : List UInt8) (hs : seed.length ≤ 1000) (n : Nat) : (mask kind seed n).length = n := by
  unfold mask
  rw [List.length_take, mgf_len kind hk seed hs n]
  have h := hsize_pos kind hk
  have h2 : n * 20 ≤ n * (hsize kind).toNat := Nat.mul_le_mul_left n h
  omega
def LenRes (w : World) (e : Ending) (w' : World) : Prop := ∃ A c, e = .returned (.slice A 65536 c) ∧ Below w.heap.size w w'
theorem big_mask (A : Option Addr) (m c : Nat) (w : World) (hr : Rd w A m c [97]) (hK : KAt w) :
    Calls Tryd.prog 26 #[.int .i64 1, .slice A m c, .int .i64 65536] w (LenRes w) := by
  refine (mgf_in1 1 (by omega) 65536 (by omega) (by omega) A m c [97] w hr (by simp) hK).mono ?_
  rintro e w' ⟨A5, n5, c5, rfl, hr5, hb5⟩
  have h1 := hr5.1
  rw [mask_len 1 (by omega) [97] (by simp)] at h1
  subst h1
  exact ⟨_, _, rfl, hb5⟩
set_option maxHeartbeats 4000000 in
theorem hashBig_walk (w : World) (hK : KAt w) : Calls Tryd.prog 10 #[] w (LawRes w) := by
  have HK := Lib.hid hK
  have H1 : Hid (¬ PbIn 3 65537 1) := Lib.hid (fun h => absurd h.2.1.2 (by omega))
  have H2 : Hid (¬ PbIn 3 2000 1056) := Lib.hid (fun h => absurd h.2.2.2 (by decide +kernel))
  have HM := Lib.hid (fun v w => mgf_out1 3 65537 (by omega) v w)
  clear hK
  have kc := fun (w : World) (C : Array Value) (n c : Nat) => Lib.run_convert_bytes_const (P := Tryd.prog) w 22 5 C n c Tryd.underlying22 Tryd.underlying5
  go_enter Tryd.func10, Tryd.ntmps10
  go_wp2_with (first
    | (go_at_call 26; have hc := HM.out (.slice none 0 0) w; (with_reducible refine hc.mono ?_); clear hc; rintro e w' ⟨rfl, rfl⟩)
    | (go_at_call 28; have hc := pb_out1 3 65537 1 H1.out (.slice none 0 0) (.slice none 0 0) w; (with_reducible refine hc.mono ?_); clear hc; rintro e w2 ⟨rfl, hb2⟩; have HB2 := Lib.hid hb2; clear hb2)
    | (go_at_call 28; have hc := pb_out1 3 2000 1056 H2.out (.slice none 0 0) (.slice none 0 0) w2; (with_reducible refine hc.mono ?_); clear hc; rintro e w3 ⟨rfl, hb3⟩; have HB3 := Lib.hid (Old.trans HB2.out hb3); clear hb3)
    | (go_at_call 26; have hr := rd_new (w := w3) (cs := #[.int .u8 97]) (fr := (1, 2)) [97] rfl 1 rfl (by decide); have hal : Old w (w3.alloc (.cells #[.int .u8 97] 5 (1, 2))) := Old.alloc HB3.out _; have hc := big_mask _ _ _ _ hr (HK.out.below hal); (with_reducible refine hc.mono ?_); clear hc; rintro e w4 ⟨A4, c4, rfl, hb4⟩; have HB4 := Lib.hid (Old.trans hal hb4); clear hb4 hr hal)
    | (go_at_call 11; have hc := begun_any w4 (HK.out.below HB4.out); (with_reducible refine hc.mono ?_); clear hc; rintro e w5 ⟨rfl, hb5⟩; have HB5 := Lib.hid (Old.trans HB4.out hb5); clear hb5))
  go_ret
  exact ⟨rfl, HB5.out⟩
end Go.Proofs.YtdlipoklhojjkaaDoor
