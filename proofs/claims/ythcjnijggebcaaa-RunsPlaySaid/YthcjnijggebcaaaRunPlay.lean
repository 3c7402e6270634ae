/- The law RunsPlay: its walk. -/
import Derived.Test.YthcjnijggebcaaaRuns14
import Derived.Test.YthcjnijggebcaaaStRow
namespace Go.Proofs.Ythcjnijggebcaaa
open Go.RowKit
set_option linter.unusedVariables false
set_option linter.unusedSimpArgs false
set_option maxHeartbeats 1000000 in
theorem runsPlay_walk (a0 : Option Addr) (len0 cap0 : Nat) (z0 : Nat → Nat → Int) (w : World) (w0 : StRow [.u8, .u16, .u16, .u16] w a0 len0 cap0 z0) :
    Calls Try.prog 7 #[.slice a0 len0 cap0] w fun e w' => e = .returned (.bool true) ∧ Below w.heap.size w w' := by
  obtain ⟨h1, h2⟩ := w0.le
  have H := Hidden.mk (fun W (hW : Mod [] w W) => w0.news (by decide) hW)
  clear w0
  go_enter Try.func7, Try.ntmps7
  go_wp2_with fail
  refine (awake08 _).mono ?_
  rintro e w1 ⟨rfl, hm1⟩
  have HK := Hidden.mk (lay08 (H.out _ hm1))
  have HM1 := Hidden.mk hm1
  clear hm1
  go_wp2_with fail
  refine HK.out.mono ?_
  rintro e w2 ⟨v, vs, g, rfl, hL, hm⟩
  have HM2 := Hidden.mk (HM1.out.trans hm (by simp))
  have HS := Hidden.mk (same08 hL)
  clear hL hm HK HM1
  go_wp2_with fail
  refine HS.out.mono ?_
  rintro e w3 ⟨rfl, hm3⟩
  have HM3 := Hidden.mk (HM2.out.trans hm3 (by simp))
  clear hm3 HS HM2
  go_wp2_with fail
  go_ret
  exact ⟨rfl, HM3.out.below (Nat.le_refl _) (by simp)⟩
end Go.Proofs.Ythcjnijggebcaaa
