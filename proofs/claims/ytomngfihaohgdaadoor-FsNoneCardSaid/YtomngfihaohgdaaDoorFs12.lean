/-
  The law FsNone, walked.
-/
import Derived.Test.YtomngfihaohgdaaDoorFs11
namespace Go.Proofs.YtomngfihaohgdaaDoor
set_option maxRecDepth 100000
open Go.RowKit

set_option maxHeartbeats 1000000 in
theorem none_any (w : World) (hK : KAt w) : Calls Tryd.prog 4 #[] w fun e w' => e = .returned (.bool true) ∧ Below w.heap.size w w' := by
  have h1 := format_nil w
  have h2 := mount_nil w
  have hmk := Tryd.prog_make 256 (by decide) w
  rw [show ((256 : Nat) : Int) = 256 from rfl] at hmk
  have HK := Lib.hid hK
  clear hK
  go_enter Tryd.func4, Tryd.ntmps4
  go_wp2_with fail
  refine h1.mono ?_
  rintro e w' ⟨rfl, rfl⟩
  clear h1
  go_wp2_with fail
  refine h2.mono ?_
  rintro e w' ⟨rfl, rfl⟩
  clear h2
  go_wp2_with fail
  refine (commit_nil _ _ _ _).mono ?_
  rintro e w2 ⟨rfl, hw2⟩
  have hO : Old w w2 := by rw [← hw2]; exact ((Old.refl w).alloc _).alloc _
  clear hw2 hmk
  go_wp2_with fail
  refine (begun_any w2 (HK.out.below hO)).mono ?_
  rintro e w3 ⟨rfl, hb3⟩
  have hO3 := Old.trans hO hb3
  have hb := blocks_nil w3
  have hc := commits_nil w3
  have hr := volread_nil w3 0 (by omega)
  go_wp2_with fail
  refine hb.mono ?_
  rintro e w' ⟨rfl, rfl⟩
  go_wp2_with fail
  refine hr.mono ?_
  rintro e w' ⟨rfl, rfl⟩
  go_wp2_with fail
  refine hc.mono ?_
  rintro e w' ⟨rfl, rfl⟩
  go_wp2_with fail
  go_ret
  exact ⟨rfl, hO3⟩
end Go.Proofs.YtomngfihaohgdaaDoor
