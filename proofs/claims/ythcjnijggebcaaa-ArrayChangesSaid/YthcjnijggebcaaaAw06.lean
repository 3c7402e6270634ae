/- stepstonelaw06: awake. -/
import Derived.Test.YthcjnijggebcaaaArrB
import Derived.Test.YthcjnijggebcaaaArrD
namespace Go.Proofs.Ythcjnijggebcaaa
open Go.RowKit
set_option linter.unusedVariables false
set_option linter.unusedSimpArgs false
theorem aw06_a : asc [5, 2, 5] = [2, 5] := asc_eq (by decide) (by intro x; simp; omega)
theorem aw06_s : selL [2, 5] (rk [2, 5] 3) = (5, true) := by decide
theorem aw06_m : mg (fun k => k == 1) [2, 5] [5] = [2] := by decide
set_option maxHeartbeats 1000000 in
theorem awake06 (w : World) : Calls Try.prog 29 #[] w fun e w' => e = .returned (.bool true) ∧ Mod [] w w' := by
  have h1 := Hidden.mk (of16 (l := [5, 2, 5]) (ISl.of_blk (Blk.new w 24 #[.int .u16 5, .int .u16 2, .int .u16 5]) (by decide)) (by decide))
  go_enter Try.func29, Try.ntmps29
  go_wp2_with fail
  refine h1.out.mono ?_
  rintro e w1 ⟨v1, rfl, hW⟩
  rw [aw06_a] at hW
  have hM := Hidden.mk (((Mod.refl [] w).alloc _).trans hW.mod (by simp))
  have hi := hW.isl.2
  have h2 := Hidden.mk (next16 3 hi (by decide) (by decide))
  obtain ⟨a1, c1, rfl, _⟩ := hi.slice_
  have HI := Hidden.mk hi
  clear hW hi h1
  go_wp2_with fail
  refine h2.out.mono ?_
  rintro e w2 ⟨hr, rfl⟩
  rw [aw06_s] at hr
  unfold IntBool at hr
  subst hr
  clear h2
  have h3 := Hidden.mk (less_16 (HI.out.alloc (.cells #[.int .u16 5] 24)) (ISl.one (x := 5) (Blk.new w1 _ _)) (by decide) (by decide))
  go_wp2_with fail
  refine h3.out.mono ?_
  rintro e w3 ⟨v3, rfl, hW3⟩
  rw [aw06_m] at hW3
  have hM3 := Hidden.mk ((hM.out.alloc _).trans hW3.mod (by simp))
  obtain ⟨a3, c3, rfl, _⟩ := hW3.isl.2.slice_
  clear hW3 h3
  go_wp2_with fail
  go_ret
  exact ⟨rfl, hM3.out⟩
end Go.Proofs.Ythcjnijggebcaaa
