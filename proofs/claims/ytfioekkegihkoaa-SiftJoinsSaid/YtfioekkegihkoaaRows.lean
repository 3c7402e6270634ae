/-
  No cell of these rows narrows 'for every input' (looked for: loops, veiled, ifaces, maps, wideKeys, modest, calm, conditions, laid).
  DERIVED. THE GIVEN ROWS OF THIS SEAT. 7 by the template 'for every input the law returns true; each argument reads behind the call as it read before'; 0 by the template 'total and deterministic' (their statements: YtfioekkegihkoaaTotals.lean).
  GIVEN WITH THE SEED: the statements are not yours to turn. If you find one false, say at which input.
  Laid BY PROGRAM, IN A SANDBOX (cutbox-rows.mjs): the forced cells as the released guide's own fill.sh prints them over the translation b09dee43b6170947… (all of the seat's roots in one cut). By AI agents, Wed Nov 11 2026. No macro, syntax, notation, axiom, sorry.
-/
import Derived.Test.YtfioekkegihkoaaChecked
import GoSem.Claim
import GoSem.ClaimJoined
import GoSem.ClaimMapViews
import Derived.JoinedTies
import Derived.KernelRfl
namespace Go.Proofs.Ytfioekkegihkoaa
/- THE CELL 'sum', in the pinned program and in every row, IS THE sha256 OF THE DUMP (.gsa) THAT YtfioekkegihkoaaProg.lean LOADS. Nothing in Lean hashes anything: it is a label: what it is worth is what the hold of that sum in a sandbox is worth. -/
noncomputable def Try.pinned : Pinned := { name := "ytfioekkegihkoaa", sum := "b09dee43b6170947e8f2ab16ef951f7fa30f97b4440459c6d7c57c0eb142de1d", checked := Try.checked }
namespace Rows
def none {H : Type} : Left H := { results := [], args := [] }

/-- 'stepstonelaw14.XfastNear': WHATEVER THE INPUT: true; the input reads as it did. -/
def xfastNearSpec : ChangeSpec := { name := "xfastNear", fn := fun _ => fun
  | [d1, d2, d3] => { results := [.lit (.bool true)], args := [d1, d2, d3] }
  | _ => none }
def xfastNearRow : OpenClaim := { program := "ytfioekkegihkoaa", sum := "b09dee43b6170947e8f2ab16ef951f7fa30f97b4440459c6d7c57c0eb142de1d", func := "stepstone/stepstonelaw14.XfastNear", spec := "xfastNear", unfollowed := true, recurses := true, apart := false }
def XfastNearSaid : Prop := xfastNearRow.holds Try.pinned (OpenSpec.ofChange xfastNearSpec)

/-- ITS FALSE NEIGHBOUR: 'it returns false'. Refute it at one input. -/
def xfastNearWrong : ChangeSpec := { name := "xfastNear", fn := fun _ => fun
  | [d1, d2, d3] => { results := [.lit (.bool false)], args := [d1, d2, d3] }
  | _ => none }
def XfastNearWrongFalsely : Prop := xfastNearRow.holds Try.pinned (OpenSpec.ofChange xfastNearWrong)

/-- 'stepstonelaw18.SiftJoins': WHATEVER THE INPUT: true; the input reads as it did. -/
def siftJoinsSpec : ChangeSpec := { name := "siftJoins", fn := fun _ => fun
  | [d1, d2, d3, d4, d5] => { results := [.lit (.bool true)], args := [d1, d2, d3, d4, d5] }
  | _ => none }
def siftJoinsRow : OpenClaim := { program := "ytfioekkegihkoaa", sum := "b09dee43b6170947e8f2ab16ef951f7fa30f97b4440459c6d7c57c0eb142de1d", func := "stepstone/stepstonelaw18.SiftJoins", spec := "siftJoins", unfollowed := true, recurses := true, apart := false }
def SiftJoinsSaid : Prop := siftJoinsRow.holds Try.pinned (OpenSpec.ofChange siftJoinsSpec)

/-- ITS FALSE NEIGHBOUR: 'it returns false'. Refute it at one input. -/
def siftJoinsWrong : ChangeSpec := { name := "siftJoins", fn := fun _ => fun
  | [d1, d2, d3, d4, d5] => { results := [.lit (.bool false)], args := [d1, d2, d3, d4, d5] }
  | _ => none }
def SiftJoinsWrongFalsely : Prop := siftJoinsRow.holds Try.pinned (OpenSpec.ofChange siftJoinsWrong)

/-- 'stepstonelaw14.XfastEmpties': WHATEVER THE INPUT: true; the input reads as it did. -/
def xfastEmptiesSpec : ChangeSpec := { name := "xfastEmpties", fn := fun _ => fun
  | [d1, d2, d3] => { results := [.lit (.bool true)], args := [d1, d2, d3] }
  | _ => none }
def xfastEmptiesRow : OpenClaim := { program := "ytfioekkegihkoaa", sum := "b09dee43b6170947e8f2ab16ef951f7fa30f97b4440459c6d7c57c0eb142de1d", func := "stepstone/stepstonelaw14.XfastEmpties", spec := "xfastEmpties", unfollowed := true, recurses := true, apart := false }
def XfastEmptiesSaid : Prop := xfastEmptiesRow.holds Try.pinned (OpenSpec.ofChange xfastEmptiesSpec)

/-- ITS FALSE NEIGHBOUR: 'it returns false'. Refute it at one input. -/
def xfastEmptiesWrong : ChangeSpec := { name := "xfastEmpties", fn := fun _ => fun
  | [d1, d2, d3] => { results := [.lit (.bool false)], args := [d1, d2, d3] }
  | _ => none }
def XfastEmptiesWrongFalsely : Prop := xfastEmptiesRow.holds Try.pinned (OpenSpec.ofChange xfastEmptiesWrong)

/-- 'stepstonelaw18.SiftLaws': WHATEVER THE INPUT: true; the input reads as it did. -/
def siftLawsSpec : ChangeSpec := { name := "siftLaws", fn := fun _ => fun
  | [d1, d2, d3] => { results := [.lit (.bool true)], args := [d1, d2, d3] }
  | _ => none }
def siftLawsRow : OpenClaim := { program := "ytfioekkegihkoaa", sum := "b09dee43b6170947e8f2ab16ef951f7fa30f97b4440459c6d7c57c0eb142de1d", func := "stepstone/stepstonelaw18.SiftLaws", spec := "siftLaws", unfollowed := true, recurses := true, apart := false }
def SiftLawsSaid : Prop := siftLawsRow.holds Try.pinned (OpenSpec.ofChange siftLawsSpec)

/-- ITS FALSE NEIGHBOUR: 'it returns false'. Refute it at one input. -/
def siftLawsWrong : ChangeSpec := { name := "siftLaws", fn := fun _ => fun
  | [d1, d2, d3] => { results := [.lit (.bool false)], args := [d1, d2, d3] }
  | _ => none }
def SiftLawsWrongFalsely : Prop := siftLawsRow.holds Try.pinned (OpenSpec.ofChange siftLawsWrong)

/-- 'stepstonelaw18.SiftAsks': WHATEVER THE INPUT: true; the input reads as it did. -/
def siftAsksSpec : ChangeSpec := { name := "siftAsks", fn := fun _ => fun
  | [d1, d2, d3] => { results := [.lit (.bool true)], args := [d1, d2, d3] }
  | _ => none }
def siftAsksRow : OpenClaim := { program := "ytfioekkegihkoaa", sum := "b09dee43b6170947e8f2ab16ef951f7fa30f97b4440459c6d7c57c0eb142de1d", func := "stepstone/stepstonelaw18.SiftAsks", spec := "siftAsks", unfollowed := true, recurses := true, apart := false }
def SiftAsksSaid : Prop := siftAsksRow.holds Try.pinned (OpenSpec.ofChange siftAsksSpec)

/-- ITS FALSE NEIGHBOUR: 'it returns false'. Refute it at one input. -/
def siftAsksWrong : ChangeSpec := { name := "siftAsks", fn := fun _ => fun
  | [d1, d2, d3] => { results := [.lit (.bool false)], args := [d1, d2, d3] }
  | _ => none }
def SiftAsksWrongFalsely : Prop := siftAsksRow.holds Try.pinned (OpenSpec.ofChange siftAsksWrong)

/-- 'stepstonelaw14.XfastNil': WHATEVER THE INPUT: true; the input reads as it did. -/
def xfastNilSpec : ChangeSpec := { name := "xfastNil", fn := fun _ => fun
  | [d1, d2, d3] => { results := [.lit (.bool true)], args := [d1, d2, d3] }
  | _ => none }
def xfastNilRow : OpenClaim := { program := "ytfioekkegihkoaa", sum := "b09dee43b6170947e8f2ab16ef951f7fa30f97b4440459c6d7c57c0eb142de1d", func := "stepstone/stepstonelaw14.XfastNil", spec := "xfastNil", unfollowed := true, recurses := true, apart := false }
def XfastNilSaid : Prop := xfastNilRow.holds Try.pinned (OpenSpec.ofChange xfastNilSpec)

/-- ITS FALSE NEIGHBOUR: 'it returns false'. Refute it at one input. -/
def xfastNilWrong : ChangeSpec := { name := "xfastNil", fn := fun _ => fun
  | [d1, d2, d3] => { results := [.lit (.bool false)], args := [d1, d2, d3] }
  | _ => none }
def XfastNilWrongFalsely : Prop := xfastNilRow.holds Try.pinned (OpenSpec.ofChange xfastNilWrong)

/-- 'stepstonelaw14.XfastPlays': WHATEVER THE INPUT: true; the input reads as it did. -/
def xfastPlaysSpec : ChangeSpec := { name := "xfastPlays", fn := fun _ => fun
  | [d1, d2, d3, d4] => { results := [.lit (.bool true)], args := [d1, d2, d3, d4] }
  | _ => none }
def xfastPlaysRow : OpenClaim := { program := "ytfioekkegihkoaa", sum := "b09dee43b6170947e8f2ab16ef951f7fa30f97b4440459c6d7c57c0eb142de1d", func := "stepstone/stepstonelaw14.XfastPlays", spec := "xfastPlays", unfollowed := true, recurses := true, apart := false }
def XfastPlaysSaid : Prop := xfastPlaysRow.holds Try.pinned (OpenSpec.ofChange xfastPlaysSpec)

/-- ITS FALSE NEIGHBOUR: 'it returns false'. Refute it at one input. -/
def xfastPlaysWrong : ChangeSpec := { name := "xfastPlays", fn := fun _ => fun
  | [d1, d2, d3, d4] => { results := [.lit (.bool false)], args := [d1, d2, d3, d4] }
  | _ => none }
def XfastPlaysWrongFalsely : Prop := xfastPlaysRow.holds Try.pinned (OpenSpec.ofChange xfastPlaysWrong)

/- THE SECOND FORM. 'bulk': how many values and letters a reading holds, each counted each time it is reached (what is shared counts as often as it is met; a slice's spare places count too). A statement '..UptoSaid' is the law's where the arguments, and the package variables that the reading takes, are together of bulk at most 1048576: NARROWER than '..Said'. Prove '..Said' where nothing that the law and all that it calls make is longer than what came in: it says more and counts as full. Else prove '..UptoSaid'. A law counts once. -/
mutual
def uptoBulk {H : Type} : DataW H → Nat
  | .lit (.string bytes) => bytes.length + 1
  | .lit _ => 1
  | .nil => 1
  | .ptr d => uptoBulk d + 1
  | .slice elems spare => uptoBulkAll elems + uptoBulkAll spare + 1
  | .agg parts => uptoBulkAll parts + 1
  | .iface _ d => uptoBulk d + 1
  | .map entries => uptoBulkEntries entries + 1
  | .held _ => 1
def uptoBulkAll {H : Type} : List (DataW H) → Nat
  | [] => 0
  | d :: r => uptoBulk d + uptoBulkAll r
def uptoBulkEntries {H : Type} : List (Lit × DataW H) → Nat
  | [] => 0
  | x :: r => uptoBulkEntry x + uptoBulkEntries r
def uptoBulkEntry {H : Type} : Lit × DataW H → Nat
  | (.string bytes, d) => bytes.length + uptoBulk d + 1
  | (_, d) => uptoBulk d + 1
 end
def uptoSmall : (H : Type) → List (DataW H) → Bool := fun _ ds => decide (uptoBulkAll ds ≤ 1048576)
def OpenSpec.upto (s : _root_.Go.ChangeSpec) : _root_.Go.OpenSpec := { _root_.Go.OpenSpec.ofChange s with cond := some uptoSmall }

/-- 'stepstonelaw14.XfastNear', WHERE WHAT IT READS IS OF BULK AT MOST 1048576: true; the input reads as it did. -/
def xfastNearUptoRow : OpenClaim := { program := "ytfioekkegihkoaa", sum := "b09dee43b6170947e8f2ab16ef951f7fa30f97b4440459c6d7c57c0eb142de1d", func := "stepstone/stepstonelaw14.XfastNear", spec := "xfastNear", unfollowed := true, recurses := true, apart := false, narrowed := true }
def XfastNearUptoSaid : Prop := xfastNearUptoRow.holds Try.pinned (OpenSpec.upto xfastNearSpec)

/-- 'stepstonelaw18.SiftJoins', WHERE WHAT IT READS IS OF BULK AT MOST 1048576: true; the input reads as it did. -/
def siftJoinsUptoRow : OpenClaim := { program := "ytfioekkegihkoaa", sum := "b09dee43b6170947e8f2ab16ef951f7fa30f97b4440459c6d7c57c0eb142de1d", func := "stepstone/stepstonelaw18.SiftJoins", spec := "siftJoins", unfollowed := true, recurses := true, apart := false, narrowed := true }
def SiftJoinsUptoSaid : Prop := siftJoinsUptoRow.holds Try.pinned (OpenSpec.upto siftJoinsSpec)

/-- 'stepstonelaw14.XfastEmpties', WHERE WHAT IT READS IS OF BULK AT MOST 1048576: true; the input reads as it did. -/
def xfastEmptiesUptoRow : OpenClaim := { program := "ytfioekkegihkoaa", sum := "b09dee43b6170947e8f2ab16ef951f7fa30f97b4440459c6d7c57c0eb142de1d", func := "stepstone/stepstonelaw14.XfastEmpties", spec := "xfastEmpties", unfollowed := true, recurses := true, apart := false, narrowed := true }
def XfastEmptiesUptoSaid : Prop := xfastEmptiesUptoRow.holds Try.pinned (OpenSpec.upto xfastEmptiesSpec)

/-- 'stepstonelaw18.SiftLaws', WHERE WHAT IT READS IS OF BULK AT MOST 1048576: true; the input reads as it did. -/
def siftLawsUptoRow : OpenClaim := { program := "ytfioekkegihkoaa", sum := "b09dee43b6170947e8f2ab16ef951f7fa30f97b4440459c6d7c57c0eb142de1d", func := "stepstone/stepstonelaw18.SiftLaws", spec := "siftLaws", unfollowed := true, recurses := true, apart := false, narrowed := true }
def SiftLawsUptoSaid : Prop := siftLawsUptoRow.holds Try.pinned (OpenSpec.upto siftLawsSpec)

/-- 'stepstonelaw18.SiftAsks', WHERE WHAT IT READS IS OF BULK AT MOST 1048576: true; the input reads as it did. -/
def siftAsksUptoRow : OpenClaim := { program := "ytfioekkegihkoaa", sum := "b09dee43b6170947e8f2ab16ef951f7fa30f97b4440459c6d7c57c0eb142de1d", func := "stepstone/stepstonelaw18.SiftAsks", spec := "siftAsks", unfollowed := true, recurses := true, apart := false, narrowed := true }
def SiftAsksUptoSaid : Prop := siftAsksUptoRow.holds Try.pinned (OpenSpec.upto siftAsksSpec)

/-- 'stepstonelaw14.XfastNil', WHERE WHAT IT READS IS OF BULK AT MOST 1048576: true; the input reads as it did. -/
def xfastNilUptoRow : OpenClaim := { program := "ytfioekkegihkoaa", sum := "b09dee43b6170947e8f2ab16ef951f7fa30f97b4440459c6d7c57c0eb142de1d", func := "stepstone/stepstonelaw14.XfastNil", spec := "xfastNil", unfollowed := true, recurses := true, apart := false, narrowed := true }
def XfastNilUptoSaid : Prop := xfastNilUptoRow.holds Try.pinned (OpenSpec.upto xfastNilSpec)

/-- 'stepstonelaw14.XfastPlays', WHERE WHAT IT READS IS OF BULK AT MOST 1048576: true; the input reads as it did. -/
def xfastPlaysUptoRow : OpenClaim := { program := "ytfioekkegihkoaa", sum := "b09dee43b6170947e8f2ab16ef951f7fa30f97b4440459c6d7c57c0eb142de1d", func := "stepstone/stepstonelaw14.XfastPlays", spec := "xfastPlays", unfollowed := true, recurses := true, apart := false, narrowed := true }
def XfastPlaysUptoSaid : Prop := xfastPlaysUptoRow.holds Try.pinned (OpenSpec.upto xfastPlaysSpec)

end Rows
end Go.Proofs.Ytfioekkegihkoaa
