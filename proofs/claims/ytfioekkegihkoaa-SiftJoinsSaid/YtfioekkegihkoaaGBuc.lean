/- Texts joined: BucA, BucB. -/
import Derived.Test.YtfioekkegihkoaaGSl64
import Derived.Test.YtfioekkegihkoaaGOrd
import Derived.Deep.RegionHeld3
set_option linter.unusedVariables false
set_option linter.unusedSimpArgs false
/- Of, Is, Has, Add, Drop of lists of uint64 that rise. -/
namespace Go.Proofs.Ytfioekkegihkoaa
open Go.RowKit
set_option linter.unusedVariables false
set_option linter.unusedSimpArgs false

theorem wayAsc64 {w w1 w2 w3 : World} {v v' : Value} {l : List Int} (h1 : WayI .u64 22 w w1 v l.length l) (hm : Mod (rb v) w1 w2) (hr : Row w3 22 1 v' (asc l).length (icells .u64 (asc l))) (hb : rb v' = rb v) (hm2 : Mod (rb v) w2 w3) : WayI .u64 22 w w3 v' (asc l).length (asc l) :=
  ⟨hr, (h1.mod.trans (hm.trans hm2 (fun x hx => .inl hx)) (fun x hx => .inr (h1.ge x hx))), fun b hb' => h1.ge b (by rwa [hb] at hb')⟩
end Go.Proofs.Ytfioekkegihkoaa

/- The k-th, the next, the last, how many are below (lists of uint64 that rise). -/
namespace Go.Proofs.Ytfioekkegihkoaa
open Go.RowKit
set_option linter.unusedVariables false
set_option linter.unusedSimpArgs false

/-- The greatest up to there. -/
def prevL64 (l : List Int) (t : Int) : Int × Bool := if t ∈ l then (t, true) else selL l ((rk l t : Int) - 1)

end Go.Proofs.Ytfioekkegihkoaa
