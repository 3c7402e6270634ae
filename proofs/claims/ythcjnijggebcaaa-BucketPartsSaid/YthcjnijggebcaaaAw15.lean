/- stepstonelaw15: awake. -/
import Derived.Test.YthcjnijggebcaaaBucC
namespace Go.Proofs.Ythcjnijggebcaaa
open Go.RowKit
set_option linter.unusedVariables false
set_option linter.unusedSimpArgs false
set_option maxHeartbeats 1000000 in
theorem awake15 (w : World) : Calls Try.prog 43 #[] w fun e w' => e = .returned (.bool true) ∧ Mod [] w w' := by
  have h1 := Hidden.mk (split64 (l := [1, 2, 3]) (ISl.of_blk (Blk.new w 62 #[.int .u64 1, .int .u64 2, .int .u64 3]) (by decide)) (by decide))
  go_enter Try.func43, Try.ntmps43
  go_wp2_with fail
  refine h1.out.mono ?_
  rintro e w1 ⟨v1, v2, rfl, hi1, hi2, hm⟩
  have hM := Hidden.mk (((Mod.refl [] w).alloc _).trans hm (by simp))
  have hi1' : ISl .u64 w1 v1 [1, 2] := hi1
  have hi2' : ISl .u64 w1 v2 [3] := hi2
  have h2 := Hidden.mk (has64 2 hi1' (by decide) (by decide))
  obtain ⟨a1, c1, rfl, _⟩ := hi1'.slice_
  obtain ⟨a2, c2, rfl, _⟩ := hi2'.slice_
  obtain ⟨b, off, x, rfl, _, hx, hc⟩ := hi2'.get (i := 0) (by decide)
  obtain rfl : x = 3 := by simpa using hx.symm
  rw [Nat.add_zero] at hc
  clear hi1 hi2 hi1' hi2' hm h1 hx
  rw [show decide ((2 : Int) ∈ ([1, 2] : List Int)) = true from by decide] at h2
  go_wp2_with fail
  refine h2.out.mono ?_
  rintro e w2 ⟨rfl, rfl⟩
  go_wp2_with fail
  go_ret
  exact ⟨rfl, hM.out⟩
end Go.Proofs.Ythcjnijggebcaaa
